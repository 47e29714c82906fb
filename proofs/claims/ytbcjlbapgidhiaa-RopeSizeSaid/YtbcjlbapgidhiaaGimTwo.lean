/- Two ropes of one text by two dice, side by side: what a call of each answers is told by the text. Conditions: at most 60000 bytes. -/
import Derived.Test.YtbcjlbapgidhiaaGimHeld
import Derived.Test.YtbcjlbapgidhiaaGimDeeds
import Derived.Test.YtbcjlbapgidhiaaGimLaw3
namespace Go.Proofs.Ytbcjlbapgidhiaa
open Go.ChangeShapes Go.WideShapes Go.ChangeAt Go.RowKit Go.Gim

/-- A slice of deeds that came in, with what their second places are. -/
theorem open_deeds_b {H : Type} {enc : TypeId × Value → H} {P : Program} {W : World} {b0 : Nat} {t e : TypeId} {f0 f1 f2 f3 : Field} {v : Value} {d : DataW H} {ps : List MemPlace} (ht : P.underlying t = some (.slice e)) (he : P.underlying e = some (.struct #[f0, f1, f2, f3])) (hone : Go.Deep.oneCellFields P #[f0, f1, f2, f3] = true) (hc : P.cellsOf e = 4)
    (u0 : P.underlying f0.type = some (.int .i64)) (u1 : P.underlying f1.type = some (.int .i64)) (u2 : P.underlying f2.type = some (.int .i64)) (u3 : P.underlying f3.type = some .string)
    (hval : Value.okWide P W .any b0 t v) (hd : DataW.Trod enc P W 0 (fun _ => true) true t v d ps) :
    ∃ (ao : Option Addr) (cap : Nat) (L : List Dd), v = .slice ao L.length cap ∧ Reads W 4 ao L.length (ddCells L) ∧ L.length ≤ maxLen ∧ ∀ x ∈ L, (Lit.int .i64 x.b).wf = true := by
  obtain ⟨ao, cap, els, rfl, hr, hm, hel⟩ := open_slice_reads (enc := enc) 4 ht hc (by omega) hval hd
  obtain ⟨L, rfl, hq⟩ := list_choose Dd.cells (fun x => (Lit.int .i64 x.b).wf = true) els (fun el h => by
    obtain ⟨hl, n, x, hx⟩ := hel el h
    obtain ⟨y0, y1, y2, y3, m, _, _, g0, g1, g2, g3⟩ := Go.Joins.trod_struct4 he hx
    obtain ⟨c0, c1, c2, c3, hcs⟩ := Go.Joins.array4 (cs := el.toArray) (by simpa using hl)
    have hcs : el = [c0, c1, c2, c3] := by simpa using congrArg Array.toList hcs
    subst hcs
    obtain ⟨o0, k0⟩ := Go.Deep.hone_of hone 0 f0 rfl
    obtain ⟨o1, k1⟩ := Go.Deep.hone_of hone 1 f1 rfl
    obtain ⟨o2, k2⟩ := Go.Deep.hone_of hone 2 f2 rfl
    obtain ⟨o3, k3⟩ := Go.Deep.hone_of hone 3 f3 rfl
    rw [o0, k0] at g0
    rw [o1, k1] at g1
    rw [o2, k2] at g2
    rw [o3, k3] at g3
    obtain ⟨a0, e0, _, _⟩ := DataW.trod_int u0 g0
    obtain ⟨a1, e1, _, _⟩ := DataW.trod_int u1 g1
    obtain ⟨a2, e2, _, l2⟩ := DataW.trod_int u2 g2
    obtain ⟨a3, e3, _, _⟩ := DataW.trod_string u3 g3
    simp at e0 e1 e2 e3
    subst e0 e1 e2 e3
    exact ⟨⟨a0, a1, a2, a3⟩, rfl, l2⟩)
  rw [show (L.map Dd.cells).flatten = ddCells L from rfl, List.length_map] at hr
  rw [List.length_map] at hm ⊢
  exact ⟨ao, cap, L, rfl, hr, hm, hq⟩

/-- What a text is behind Insert, Delete; their answers. -/
def insN (z : ByteArray) (f : Int) (c : ByteArray) : ByteArray := if 0 ≤ f ∧ f ≤ z.size then z.extract 0 f.toNat ++ c ++ z.extract f.toNat z.size else z
def delN (z : ByteArray) (f g : Int) : ByteArray := if 0 ≤ f ∧ f ≤ g ∧ g ≤ z.size then z.extract 0 f.toNat ++ z.extract g.toNat z.size else z
def outE (z : ByteArray) (f g : Int) : Int := if 0 ≤ f ∧ f ≤ g ∧ g ≤ z.size then 0 else 3
theorem insN_size (z : ByteArray) (f : Int) (c : ByteArray) : (insN z f c).size ≤ z.size + c.size := by
  unfold insN
  split
  · rw [size_in z c f.toNat (by omega)]; omega
  · omega
theorem delN_size (z : ByteArray) (f g : Int) : (delN z f g).size ≤ z.size := by
  unfold delN
  split
  · rw [size_out z f.toNat g.toNat (by omega) (by omega)]; omega
  · omega

/-- A deed done to a rope: it goes on, and what stands apart stays. -/
structure Went (w0 : World) (D : Dice) (R R' : Rp) (z : ByteArray) (w w' : World) : Prop where
  held : Held w0 D R' z w'
  rb : R'.rb = R.rb
  aside : ∀ O, RopeAt w O → Apart R O → RopeAt w' O ∧ Apart R' O

theorem Went.none {w0 w : World} {D : Dice} {R : Rp} {z : ByteArray} (h : Held w0 D R z w) : Went w0 D R R z w w := ⟨h, rfl, fun _ h1 h2 => ⟨h1, h2⟩⟩
theorem Went.of {w0 w w' : World} {D : Dice} {R R' : Rp} {z z' : ByteArray} {l : List UInt8} (h : Held w0 D R z w) (hd : Done R R' l w w') (hl : l = z'.data.toList) : Went w0 D R R' z' w w' :=
  ⟨h.done hd hl, hd.grew.1, fun _ h1 h2 => hd.aside h2 h1⟩

theorem ins_held {w0 w : World} {D : Dice} {R : Rp} {z : ByteArray} {b : Nat} (hb : R.rb = b) (h : Held w0 D R z w) (f : Int) (c : ByteArray) (hs : z.size + c.size ≤ 65536) :
    Calls Try.prog 31 #[.pointer (some ⟨b, 0, none⟩), .int .i64 f, .string c] w fun e w' => e = .returned (.int .i64 (outE z f f)) ∧ ∃ R', Went w0 D R R' (insN z f c) w w' := by
  subst hb
  have hz := h.size
  by_cases hf : 0 ≤ f ∧ f ≤ z.size
  · obtain ⟨k, rfl⟩ := Int.eq_ofNat_of_zero_le hf.1
    refine (insert_yes R k c w h.rope (rises_of ⟨by omega, by omega, by omega⟩) (by omega)).mono ?_
    rintro e w' ⟨rfl, R', hd⟩
    refine ⟨by rw [outE, if_pos ⟨by omega, by omega, by omega⟩], R', ?_⟩
    rw [insN, if_pos hf, Int.toNat_natCast]
    exact Went.of h hd (by rw [h.text]; exact splice_in z c k)
  · refine (insert_no R f c w h.rope (rises_not (by omega))).mono ?_
    rintro e w' ⟨rfl, rfl⟩
    refine ⟨by rw [outE, if_neg (by omega)], R, ?_⟩
    rw [insN, if_neg hf]
    exact Went.none h
theorem del_held {w0 w : World} {D : Dice} {R : Rp} {z : ByteArray} {b : Nat} (hb : R.rb = b) (h : Held w0 D R z w) (f g : Int) :
    Calls Try.prog 34 #[.pointer (some ⟨b, 0, none⟩), .int .i64 f, .int .i64 g] w fun e w' => e = .returned (.int .i64 (outE z f g)) ∧ ∃ R', Went w0 D R R' (delN z f g) w w' := by
  subst hb
  have hz := h.size
  by_cases hf : 0 ≤ f ∧ f ≤ g ∧ g ≤ z.size
  · obtain ⟨k, rfl⟩ := Int.eq_ofNat_of_zero_le hf.1
    obtain ⟨j, rfl⟩ := Int.eq_ofNat_of_zero_le (show 0 ≤ g by omega)
    refine (delete_yes R k j w h.rope (rises_of ⟨by omega, by omega, by omega⟩)).mono ?_
    rintro e w' ⟨rfl, R', hd⟩
    refine ⟨by rw [outE, if_pos hf], R', ?_⟩
    rw [delN, if_pos hf, Int.toNat_natCast, Int.toNat_natCast]
    exact Went.of h hd (by rw [h.text]; exact splice_out z k j)
  · refine (delete_no R f g w h.rope (rises_not (by omega))).mono ?_
    rintro e w' ⟨rfl, rfl⟩
    refine ⟨by rw [outE, if_neg hf], R, ?_⟩
    rw [delN, if_neg hf]
    exact Went.none h
theorem slice_held (z : ByteArray) (f g : Int) : ∃ (v : ByteArray) (e : Int), ∀ (w0 w : World) (D : Dice) (R : Rp) (b : Nat), R.rb = b → Held w0 D R z w →
    Calls Try.prog 28 #[.pointer (some ⟨b, 0, none⟩), .int .i64 f, .int .i64 g] w fun x w' => x = .returned (.tuple #[.string v, .int .i64 e]) ∧ Ext w w' := by
  by_cases hf : 0 ≤ f ∧ f ≤ g ∧ g ≤ z.size
  · refine ⟨bs (cut z.data.toList f g), 0, fun w0 w D R b hb h => ?_⟩
    subst hb
    have hz := h.size
    have := slice_yes R f g w h.rope (rises_of ⟨by omega, by omega, by omega⟩)
    rwa [h.text] at this
  · refine ⟨⟨#[]⟩, 3, fun w0 w D R b hb h => ?_⟩
    subst hb
    have hz := h.size
    refine (slice_no R f g w h.rope (rises_not (by omega))).mono ?_
    rintro x w' ⟨rfl, rfl⟩
    exact ⟨rfl, Mod.refl _ _⟩
theorem count_held (z : ByteArray) (f : Int) : ∃ (t0 t1 t2 t3 e : Int), ∀ (w0 w : World) (D : Dice) (R : Rp) (b : Nat), R.rb = b → Held w0 D R z w →
    Calls Try.prog 38 #[.pointer (some ⟨b, 0, none⟩), .int .i64 f] w fun x w' => x = .returned (.tuple #[.agg #[.int .i64 t0, .int .i64 t1, .int .i64 t2, .int .i64 t3], .int .i64 e]) ∧ Ext w w' := by
  by_cases hf : 0 ≤ f ∧ f ≤ z.size
  · refine ⟨((byt (z.data.toList.take f.toNat) : Nat) : Int), ((brk (z.data.toList.take f.toNat) : Nat) : Int), ((run (z.data.toList.take f.toNat) : Nat) : Int), ((unt (z.data.toList.take f.toNat) : Nat) : Int), 0, fun w0 w D R b hb h => ?_⟩
    subst hb
    have hz := h.size
    have := count_yes R f w h.rope (rises_of ⟨by omega, by omega, by omega⟩)
    unfold CountPost at this
    rwa [h.text] at this
  · refine ⟨0, 0, 0, 0, 3, fun w0 w D R b hb h => ?_⟩
    subst hb
    have hz := h.size
    exact count_no R f w h.rope (rises_not (by omega))
theorem upto_held (z : ByteArray) (way n : Int) (hn : IsInt n) : ∃ (u : Int), ∀ (w0 w : World) (D : Dice) (R : Rp) (b : Nat), R.rb = b → Held w0 D R z w →
    Calls Try.prog 40 #[.pointer (some ⟨b, 0, none⟩), .int .i64 way, .int .i64 n] w fun x w' => x = .returned (.int .i64 u) ∧ Ext w w' := by
  by_cases hf : 0 ≤ n ∧ 0 ≤ way ∧ way ≤ 3
  · obtain ⟨k, rfl⟩ := Int.eq_ofNat_of_zero_le hf.1
    refine ⟨(upto way z.data.toList k : Nat), fun w0 w D R b hb h => ?_⟩
    subst hb
    have := upto_yes R way k w h.rope hf.2.1 hf.2.2 hn
    rw [h.text] at this
    exact this
  · refine ⟨-1, fun w0 w D R b hb h => ?_⟩
    refine (upto_no _ way n w (by unfold badUpto; omega)).mono ?_
    rintro x w' ⟨rfl, rfl⟩
    exact ⟨rfl, Mod.refl _ _⟩
theorem text_held (z : ByteArray) (w0 w : World) (D : Dice) (R : Rp) (b : Nat) (hb : R.rb = b) (h : Held w0 D R z w) :
    Calls Try.prog 26 #[.pointer (some ⟨b, 0, none⟩)] w fun x w' => x = .returned (.string z) ∧ Ext w w' := by
  subst hb
  have := text_rope R w h.rope
  rwa [h.bs] at this

/-- Two ropes of one text. -/
structure Two (w0 : World) (D E : Dice) (A B : Rp) (z y : ByteArray) (w : World) : Prop where
  fst : Held w0 D A z w
  snd : Held w0 E B y w
  apart : Apart A B
theorem Two.on {w0 w w' : World} {D E : Dice} {A B : Rp} {z y : ByteArray} (h : Two w0 D E A B z y w) (hx : Ext w w') : Two w0 D E A B z y w' := ⟨h.fst.on hx, h.snd.on hx, h.apart⟩
theorem Two.wentA {w0 w w' : World} {D E : Dice} {A A' B : Rp} {z z' y : ByteArray} (h : Two w0 D E A B z y w) (s : Went w0 D A A' z' w w') : Two w0 D E A' B z' y w' := by
  obtain ⟨h1, h2⟩ := s.aside B h.snd.rope h.apart
  exact ⟨s.held, ⟨h1, h.snd.text, s.held.ext, h.snd.new, h.snd.dice⟩, h2⟩
theorem Two.wentB {w0 w w' : World} {D E : Dice} {A B B' : Rp} {z y y' : ByteArray} (h : Two w0 D E A B z y w) (s : Went w0 E B B' y' w w') : Two w0 D E A B' z y' w' := by
  obtain ⟨h1, h2⟩ := s.aside A h.fst.rope h.apart.symm
  exact ⟨⟨h1, h.fst.text, s.held.ext, h.fst.new, h.fst.dice⟩, s.held, h2.symm⟩
theorem Two.start {w0 w w1 w2 : World} {D E : Dice} {A B : Rp} {z : ByteArray} (h : Held w0 D A z w) (hm : MadeDice E w w1) (hF : Fresh B E z.data.toList w1 w2) : Two w0 D E A B z z w2 := by
  obtain ⟨h1, h2⟩ := hF.with hm h.rope
  have hB := Held.start (s := z) (h.ext.ext_trans hm.ext) (Nat.le_trans h.ext.size hm.d) hF rfl
  exact ⟨⟨h1, h.text, hB.ext, h.new, h.dice⟩, hB, h2⟩

end Go.Proofs.Ytbcjlbapgidhiaa

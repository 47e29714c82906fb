/- A sheet made since a world, without a paper; gimletlaw10's awake. Conditions: none. -/
import Derived.Test.YthlmgoagnfkhdaaGreatGimF44
import Derived.Test.YthlmgoagnfkhdaaGreatGimF37
import Derived.Test.YthlmgoagnfkhdaaGreatGimF27
import Derived.Test.YthlmgoagnfkhdaaGreatGimF38
import Derived.Test.YthlmgoagnfkhdaaGreatGimF07
import Derived.Test.YthlmgoagnfkhdaaGreatGimF03
import Derived.Test.YthlmgoagnfkhdaaGreatGimF41
import Derived.Test.YthlmgoagnfkhdaaGreatGimF34
import Derived.Test.YthlmgoagnfkhdaaGreatGimF39
import Derived.Test.YthlmgoagnfkhdaaGreatRows
set_option maxHeartbeats 6400000
set_option maxRecDepth 1000000
set_option linter.unusedVariables false
set_option linter.unusedSimpArgs false
namespace Go.Gim
def awA : ByteArray := ⟨#[97, 98]⟩
def awX : ByteArray := ⟨#[120]⟩
def awZ : ByteArray := ⟨#[120, 97, 98]⟩
def awE1 : List Ed := [⟨0, 0, awX⟩]
def awE2 : List Ed := [⟨0, 2, ⟨#[]⟩⟩, ⟨1, 2, ⟨#[]⟩⟩]
theorem awT : typedL awX [(0, 0)] = awE1 := by rfl
theorem awM1 : mayE awA.size awE1 = 0 := by decide +kernel
theorem awM2 : mayE awZ.size awE2 = 5 := by decide +kernel
theorem awTx : textC awA awE1 = awZ := by
 unfold textC
 rw [if_pos awM1]
 rfl
theorem awQ : selC awA awE1 [(0, 0)] = [(1, 1)] := by
 unfold selC
 rw [if_pos awM1]
 rfl
theorem awTx2 : textC awZ awE2 = awZ := by
 unfold textC
 rw [if_neg (by rw [awM2]; decide)]
theorem awQ2 : selC awZ awE2 [(1, 1)] = [(1, 1)] := by
 unfold selC
 rw [if_neg (by rw [awM2]; decide)]
theorem awB2 : backC awZ awE2 = [] := by
 unfold backC
 rw [if_neg (by rw [awM2]; decide)]
end Go.Gim
namespace Go.Proofs.YthlmgoagnfkhdaaGreat
open Go.RowKit Go.Gim
structure Alone (w0 w : World) (S : Sh) (Bd : Int) (m : Nat) : Prop where
 sh : SheetAt w S
 own : ∀ k, ShS S k → w0.heap.size ≤ k
 tok : Tok S.L S.last Bd
 bd : 65536 ≤ Bd
 q0 : 0 < S.q.length
 q1 : S.q.length ≤ m
 inq : InT S.s.size S.q
 ext : Ext w0 w
theorem Alone.on {w0 w w' : World} {S : Sh} {Bd : Int} {m : Nat} (h : Alone w0 w S Bd m) (hx : Ext w w') : Alone w0 w' S Bd m :=
 ⟨h.sh.ext hx, h.own, h.tok, h.bd, h.q0, h.q1, h.inq, h.ext.ext_trans hx⟩
theorem Alone.more {w0 w : World} {S : Sh} {Bd : Int} {m m' : Nat} (h : Alone w0 w S Bd m) (hm : m ≤ m') : Alone w0 w S Bd m' :=
 ⟨h.sh, h.own, h.tok, h.bd, h.q0, Nat.le_trans h.q1 hm, h.inq, h.ext⟩
theorem Alone.turned {w0 w w1 : World} {S S' : Sh} {Bd : Int} {m : Nat} (h : Alone w0 w S Bd m) (hd : ShDone S S' w w1) : (∀ k, ShS S' k → w0.heap.size ≤ k) ∧ Ext w0 w1 := by
 refine ⟨fun k hk => ?_, h.ext.trans hd.mod (fun i hi e => by have := h.own i e; omega)⟩
 by_cases hl : k < w.heap.size
 ·exact h.own k (hd.grew k hl hk)
 ·have := h.ext.size; omega
theorem Alone.did {w0 w w1 : World} {S S' : Sh} {Bd : Int} {m : Nat} {es : List Ed} (h : Alone w0 w S Bd m) (hs : S.s.size ≤ 65536) (hn : es.length ≤ 19) (ht : ∀ e ∈ es, e.t.size ≤ 100000) (hd : ShDone S S' w w1) (e1 : S'.s = textC S.s es) (e2 : S'.L = tabC S.s es S.L) (e3 : S'.last = S.last) (e4 : S'.q = selC S.s es S.q) : Alone w0 w1 S' (Bd + 2000000) m := by
 obtain ⟨h1, h2⟩ := h.turned hd
 refine ⟨hd.at_, h1, ?_, by have := h.bd; omega, ?_, ?_, ?_, h2⟩
 ·rw [e2, e3]; exact tabC_tok hs h.tok hn ht h.bd
 ·rw [e4]; exact selC_pos _ _ h.q0
 ·rw [e4]; exact Nat.le_trans (selC_len _ _ _) h.q1
 ·rw [e1, e4]; exact selC_in h.inq
theorem Alone.pick {w0 w w1 : World} {S S' : Sh} {Bd : Int} {m m' : Nat} (h : Alone w0 w S Bd m) (hd : ShDone S S' w w1) (e1 : S'.s = S.s) (e2 : S'.L = S.L) (e3 : S'.last = S.last) (q0 : 0 < S'.q.length) (q1 : S'.q.length ≤ m') (hq : InT S.s.size S'.q) : Alone w0 w1 S' Bd m' := by
 obtain ⟨h1, h2⟩ := h.turned hd
 exact ⟨hd.at_, h1, by rw [e2, e3]; exact h.tok, h.bd, q0, q1, by rw [e1]; exact hq, h2⟩
theorem Alone.start {w0 w1 w2 : World} {D : Dice} {S : Sh} {m : Nat} (hx : Ext w0 w1) (hd : w0.heap.size ≤ D.d) (h1 : SheetAt w2 S) (h3 : S.L = []) (h4 : S.last = 0) (h5 : S.q = [(0, 0)]) (h6 : ∀ k, ShS S k → w1.heap.size ≤ k ∨ k = D.d) (h7 : Mod (· = D.d) w1 w2) (hm : 1 ≤ m) : Alone w0 w2 S 65536 m := by
 refine ⟨h1, fun k hk => ?_, ?_, by omega, by rw [h5]; simp, by rw [h5]; exact hm, ?_, hx.trans h7 (fun i hi e => by omega)⟩
 ·have := hx.size
  rcases h6 k hk with h | h <;> omega
 ·rw [h3, h4]; exact Tok.nil.mono (by omega)
 ·rw [h5]
  intro x hx
  rw [List.mem_singleton.1 hx]
  simp only
  omega
theorem Alone.do {w0 w : World} {S : Sh} {Bd : Int} {m : Nat} (h : Alone w0 w S Bd m) (hm : m ≤ 19) (hB : Bd ≤ 900000000) (hs : S.s.size ≤ 65536) (ao : Option Addr) (cap : Nat) (es : List Ed) (he : Reads w 3 ao es.length (edE.cells es)) (hn : es.length ≤ 19) (ht : ∀ e ∈ es, e.t.size ≤ 100000) (hfar : 0 < es.length → ∀ a, ao = some a → ¬ ShS S a.block) :
  Calls Tryz.prog 17 #[.pointer (some ⟨S.sb, 0, none⟩), .slice ao es.length cap] w fun e w' => ∃ (S' : Sh) (a : Option Addr) (c : Nat), e = .returned (.tuple #[.slice a (backC S.s es).length c, .int .i64 (mayE S.s.size es)]) ∧
   w'.ownsRow w.heap.size 59 3 (.slice a (backC S.s es).length c) (backC S.s es).length (edE.cells (backC S.s es)) ∧ (∀ ad, a = some ad → ¬ ShS S' ad.block) ∧ ShDone S S' w w' ∧ S'.s = textC S.s es ∧ S'.L = tabC S.s es S.L ∧ S'.last = S.last ∧ S'.q = selC S.s es S.q ∧ Alone w0 w' S' (Bd + 2000000) m := by
 refine (sdo_all S Bd ao cap es w h.sh hs he hn ht hfar h.q0 (by have := h.q1; omega) h.inq h.tok h.bd hB).mono ?_
 rintro e w' ⟨S', a, c, rfl, h1, h2, h3, h4, h5, h6, h7⟩
 exact ⟨S', a, c, rfl, h1, h2, h3, h4, h5, h6, h7, h.did hs hn ht h3 h4 h5 h6 h7⟩
theorem Alone.free {w0 w w' : World} {S : Sh} {Bd : Int} {m B n : Nat} {ao : Option Addr} {c z : Nat} {T : TypeId} {xs : List Value} (h : Alone w0 w S Bd m) (ho : w'.ownsRow B T z (.slice ao n c) n xs) (hB : w.heap.size ≤ B) : ∀ a, ao = some a → ¬ ShS S a.block := fun a ha =>
 h.sh.free (Nat.le_trans hB (ho.lt a.block (by rw [ha]; rfl)).1)
theorem awakeS_any (w : World) : Calls Tryz.prog 11 #[] w fun e w' => e = .returned (.bool true) ∧ Ext w w' := by
 have T1 := Lib.hid awTx
 have T2 := Lib.hid awTx2
 have Q1 := Lib.hid awQ
 have Q2 := Lib.hid awQ2
 have M2 := Lib.hid awM2
 have B2 := Lib.hid awB2
 have TT := Lib.hid awT
 go_enter Tryz.func11, Tryz.ntmps11
 go_wp2_with fail
 refine (dice_lit _ [3] #[.int .u32 3] rfl (by simp) (by simp)).mono ?_
 rintro e u1 ⟨D, rfl, hD⟩
 go_wp2_with fail
 refine (snew_any D awA u1 hD.dice (by decide)).mono ?_
 rintro e u2 ⟨S, rfl, h1, h2, h3, h4, h5, -, h6, h7⟩
 have HA := Lib.hid (Alone.start (m := 1) hD.ext hD.d h1 h3 h4 h5 h6 h7 (by omega))
 have H2 := Lib.hid h2
 have H5 := Lib.hid h5
 have d1 := HA.out.sh.blk.cell 1
 simp only [List.getElem?_toArray, List.getElem?_cons_zero, List.getElem?_cons_succ] at d1
 have hlb := HA.out.sh.blk.lt
 have HTy := Lib.hid (styped_any S awX u2 HA.out.sh (by rw [H5.out]; simp) (by rw [H5.out]; simp))
 unfold Enc.Out at HTy
 rw [H5.out, TT.out] at HTy
 clear hD h1 h2 h3 h4 h5 h6 h7
 go_wp2_with fail
 refine HTy.out.mono ?_
 rintro e u3 ⟨v, rfl, ho, hx3⟩
 have Ho := Lib.hid ho
 obtain ⟨az, cz, rfl, hr⟩ := Enc.owns_reads (E := edE) ho
 have HA3 := Lib.hid (HA.out.on hx3)
 have HDo := Lib.hid (HA3.out.do (by omega) (by omega) (by rw [H2.out]; decide) az cz awE1 hr (by decide) (by intro e he; rw [List.mem_singleton.1 he]; decide) (fun _ => HA.out.free Ho.out (Nat.le_refl _)))
 rw [H2.out, awM1] at HDo
 clear ho hr hx3 HTy d1 hlb
 go_wp2_with fail
 refine HDo.out.mono ?_
 rintro e u4 ⟨S1, a1, c1, rfl, -, -, hd1, e1, e2, e3, e4, hA4⟩
 rw [T1.out] at e1
 rw [H5.out, Q1.out] at e4
 have E1 := Lib.hid e1
 have E4 := Lib.hid e4
 have Hd1 := Lib.hid hd1
 have HA4 := Lib.hid hA4
 have hsb1 := hd1.sb
 clear HDo e1 e2 e3 e4 hd1 hA4
 obtain ⟨u5, hu5⟩ : ∃ u5, u5 = u4.alloc (.cells #[.int .i64 0, .int .i64 2, .string ⟨#[]⟩, .int .i64 1, .int .i64 2, .string ⟨#[]⟩] 59) := ⟨_, rfl⟩
 have hx5 : Ext u4 u5 := by rw [hu5]; exact (Mod.refl _ u4).alloc _
 have hr5 : Reads u5 3 (some ⟨u4.heap.size, 0, none⟩) 2 (edE.cells awE2) := by rw [hu5]; exact Reads.new u4 59 #[.int .i64 0, .int .i64 2, .string ⟨#[]⟩, .int .i64 1, .int .i64 2, .string ⟨#[]⟩] 3 2 rfl
 have HA5 := Lib.hid (HA4.out.on hx5)
 have HDo := Lib.hid (HA5.out.do (by omega) (by omega) (by rw [E1.out]; decide) (some ⟨u4.heap.size, 0, none⟩) 2 awE2 hr5 (by decide) (by intro e he; simp only [awE2, List.mem_cons, List.not_mem_nil, or_false] at he; rcases he with rfl | rfl <;> decide) (fun _ a ha => by cases ha; exact HA4.out.sh.free (Nat.le_refl _)))
 rw [E1.out, M2.out, B2.out, hsb1] at HDo
 clear hr5
 go_wp2_with fail
 rw [← hu5]
 refine HDo.out.mono ?_
 rintro e u6 ⟨S2, a2, c2, rfl, ho2, -, hd2, e1, e2, e3, e4, hA6⟩
 rw [T2.out] at e1
 rw [E4.out, Q2.out] at e4
 have E1' := Lib.hid e1
 have E4' := Lib.hid e4
 have HA6 := Lib.hid hA6
 have hsb2 : S2.sb = S.sb := hd2.sb.trans hsb1
 have HSe := Lib.hid (ssels_any S2 u6 hA6.sh hA6.q0 (by have := hA6.q1; omega))
 have HTx := Lib.hid (fun w' (h' : Ext u6 w') => text_rope S2.R w' (hA6.sh.rope.ext h'))
 rw [bs_eq hA6.sh.text, E1'.out] at HTx
 unfold NewRow at HSe
 rw [E4'.out, hsb2] at HSe
 clear hd2 e1 e2 e3 e4 hA6 HDo hu5 ho2
 go_wp2_with fail
 refine HSe.out.mono ?_
 rintro e u7 ⟨g7, c7, rfl, ho7, hx7⟩
 have HA7 := Lib.hid (HA6.out.on hx7)
 have Hr7 := Lib.hid (Reads.own ho7)
 have HTx7 := Lib.hid (HTx.out u7 hx7)
 unfold awZ at HTx7
 have d0 := HA7.out.sh.blk.cell 0
 simp only [List.getElem?_toArray, List.getElem?_cons_zero] at d0
 rw [hsb2] at d0
 have hlb := HA7.out.sh.blk.lt
 rw [hsb2] at hlb
 clear HSe HTx ho7 hx7
 go_wp2_with fail
 refine HTx7.out.mono ?_
 rintro e u8 ⟨rfl, hx8⟩
 obtain ⟨c0, c1'⟩ := reads_pair (Hr7.out.mod hx8 (fun _ _ f => f)) (i := 0) (x := (1, 1)) rfl
 simp only [Nat.zero_mul, Nat.zero_add, Nat.add_zero] at c0 c1'
 have hbl := World.block_lt_of_cell? u8 _ c0
 have hzz : ((⟨#[120, 97, 98]⟩ : ByteArray).toList == (⟨#[120, 97, 98]⟩ : ByteArray).toList) = true := beq_self_eq_true _
 go_wp2_with fail
 go_ret
 exact ⟨rfl, HA7.out.ext.ext_trans hx8⟩
theorem SheetAt.cell0 {w : World} {S : Sh} (h : SheetAt w S) : w.cell? ⟨S.sb, 0, none⟩ = some (.pointer (some ⟨S.R.rb, 0, none⟩)) := h.blk.cell 0
theorem fit_of {L : List Ds} (h : muchS L = false) : ∀ x ∈ L, DsFit x := fun x hx => by
 obtain ⟨h1, h2, h3, h4⟩ := muchS_no h x hx
 exact ⟨h1, h2, h3, h4⟩
theorem Both.start {w0 w : World} {S : Sh} {Bd : Int} {m : Nat} (h : Alone w0 w S Bd m) (hq : S.q = [(0, 0)]) (hL : S.L = []) (hl : S.last = 0) (s : ByteArray) (hs : S.s = s) :
  Both w0 (((w.alloc (.cells #[.int .i64 0, .int .i64 0] 47)).alloc (.cells #[.slice none 0 0, .slice none 0 0, .int .i64 0] 86)).alloc (.cells #[.string s, .slice (some ⟨w.heap.size, 0, none⟩) 1 1, .pointer (some ⟨w.heap.size + 1, 0, none⟩)] 88)) S ⟨w.heap.size + 2, some ⟨w.heap.size, 0, none⟩, 1, w.heap.size + 1, .slice none 0 0, .slice none 0 0⟩ Bd m := by
 obtain ⟨w1, hw1⟩ : ∃ w1, w1 = w.alloc (.cells #[.int .i64 0, .int .i64 0] 47) := ⟨_, rfl⟩
 obtain ⟨w2, hw2⟩ : ∃ w2, w2 = w1.alloc (.cells #[.slice none 0 0, .slice none 0 0, .int .i64 0] 86) := ⟨_, rfl⟩
 have x1 : Ext w w1 := by rw [hw1]; exact (Mod.refl _ w).alloc _
 have x2 : Ext w1 w2 := by rw [hw2]; exact (Mod.refl _ w1).alloc _
 have x3 : Ext w2 (w2.alloc (.cells #[.string s, .slice (some ⟨w.heap.size, 0, none⟩) 1 1, .pointer (some ⟨w.heap.size + 1, 0, none⟩)] 88)) := (Mod.refl _ w2).alloc _
 have z1 : w1.heap.size = w.heap.size + 1 := by rw [hw1]; simp
 have z2 : w2.heap.size = w.heap.size + 2 := by rw [hw2]; simp [z1]
 have r1 : w1.ownsRow 0 47 2 (.slice (some ⟨w.heap.size, 0, none⟩) 1 1) 1 (prCells [(0, 0)]) := by rw [hw1]; exact World.ownsRow_lit w #[.int .i64 0, .int .i64 0] 1 (Nat.zero_le _) (by unfold maxLen; omega) rfl
 have b2 : Blk w2 (w.heap.size + 1) 86 #[.slice none 0 0, .slice none 0 0, .int .i64 0] := by
  have := Blk.new w1 86 #[.slice none 0 0, .slice none 0 0, .int .i64 0]
  rw [hw2]
  rwa [z1] at this
 have b3 : Blk (w2.alloc (.cells #[.string s, .slice (some ⟨w.heap.size, 0, none⟩) 1 1, .pointer (some ⟨w.heap.size + 1, 0, none⟩)] 88)) (w.heap.size + 2) 88 #[.string s, .slice (some ⟨w.heap.size, 0, none⟩) 1 1, .pointer (some ⟨w.heap.size + 1, 0, none⟩)] := by
  have := Blk.new w2 88 #[.string s, .slice (some ⟨w.heap.size, 0, none⟩) 1 1, .pointer (some ⟨w.heap.size + 1, 0, none⟩)]
  rwa [z2] at this
 have hz := h.ext.size
 rw [← hw1, ← hw2]
 have hx := (x1.ext_trans x2).ext_trans x3
 refine ⟨h.sh.ext hx, ?_, h.own, h.tok, h.bd, h.q0, h.q1, h.inq, h.ext.ext_trans hx⟩
 rw [hs, hq, hL, hl]
 exact ⟨b3, by simp only; omega, own_mod r1 (x2.ext_trans x3) (fun _ _ f => f), ⟨b2.mod x3 (fun f => f), by simp only; omega, World.ownsRow_nil _ _ _ _, World.ownsRow_nil _ _ _ _⟩⟩
end Go.Proofs.YthlmgoagnfkhdaaGreat
namespace Go.Proofs.YthlmgoagnfkhdaaGreat
open Go.ChangeShapes Go.WideShapes Go.ChangeAt Go.RowKit Go.Gim
end Go.Proofs.YthlmgoagnfkhdaaGreat
namespace Go.Gim
theorem typed_asc {t : ByteArray} {q : List (Int × Int)} (h : q.Pairwise rS) : Asc (typedL t q) := by
 refine ⟨fun e he => ?_, ?_⟩
 ·obtain ⟨x, _, rfl⟩ := List.mem_map.1 he
  exact spanI_le x
 ·unfold typedL
  rw [List.pairwise_map]
  exact h
theorem typed_in {n : Int} {t : ByteArray} {q : List (Int × Int)} (hq : InT n q) : ∀ e ∈ typedL t q, 0 ≤ e.a ∧ e.b ≤ n ∧ 0 ≤ e.b := by
 intro e he
 obtain ⟨x, hx, rfl⟩ := List.mem_map.1 he
 have := hq x hx
 unfold spanI
 simp only
 omega
theorem typed_t {t : ByteArray} {q : List (Int × Int)} : ∀ e ∈ typedL t q, e.t = t := by
 intro e he
 obtain ⟨x, hx, rfl⟩ := List.mem_map.1 he
 rfl
theorem typed_may {n : Nat} {t : ByteArray} {q : List (Int × Int)} (hq : InT n q) (h : q.Pairwise rS) (hz : n + q.length * t.size ≤ 65536) : mayE n (typedL t q) = 0 := by
 have ha := typed_asc (t := t) h
 have hi := typed_in (t := t) hq
 have hr : rangedE n (typedL t q) = 0 := asc_rangedN ha (fun e he => by have := hi e he; omega)
 have hg := grownE_most (c := t.size) (typedL t q) n (fun e he => ⟨ha.1 e he, by rw [typed_t e he]; exact Nat.le_refl _⟩)
 rw [typedL_len] at hg
 rw [mayE_fit hr, if_neg (by omega)]
def ks : Int → List Ed → List Int
 | _, [] => []
 | g, e :: r => (e.a + e.t.size + g) :: ks (g + dE e) r
theorem ks_len : ∀ (E : List Ed) (g : Int), (ks g E).length = E.length := by
 intro E
 induction E with
 | nil => intro g; rfl
 | cons e r ih => intro g; simp [ks, ih]
theorem ks_fold : ∀ (E : List Ed) (g : Int) (i : Nat) (e : Ed) (o : Int), Asc E → E[i]? = some e → e.a ≤ o → o ≤ e.b → (ks g E)[i]? = some (foldE true E o + g) ∧ ∀ c, (∀ x ∈ E, c < x.a) → c < foldE true E o := by
 intro E
 induction E with
 | nil => intro g i e o _ h; cases h
 | cons x r ih =>
  intro g i e o ha he h1 h2
  obtain ⟨t1, t2, t3⟩ := ha.tail
  have hst : foldE true (x :: r) o = oneE true (foldE true r o) x := rfl
  cases i with
  | zero =>
   cases he
   rw [hst, fold_stay r o (fun y hy => by have := t3 y hy; omega)]
   unfold oneE
   rw [if_neg (by omega), if_neg (by omega), if_pos rfl]
   exact ⟨rfl, fun c hc => by have := hc x (by simp); omega⟩
  | succ i =>
   obtain ⟨i1, i2⟩ := ih (g + dE x) i e o t1 he h1 h2
   have h3 := i2 x.b t3
   rw [hst]
   have h4 : oneE true (foldE true r o) x = foldE true r o + dE x := by
    unfold oneE dE
    rw [if_neg (by omega), if_pos h3]
   rw [h4]
   refine ⟨?_, fun c hc => ?_⟩
   ·show (ks (g + dE x) r)[i]? = _
    rw [i1]
    congr 1
    omega
   ·have := hc x (by simp)
    unfold dE
    omega
theorem ks_gt : ∀ (E : List Ed) (g c : Int), Asc E → (∀ x ∈ E, c < x.a) → ∀ k ∈ ks g E, c + g < k := by
 intro E
 induction E with
 | nil => intro g c _ _ k hk; cases hk
 | cons x r ih =>
  intro g c ha hc k hk
  obtain ⟨t1, t2, t3⟩ := ha.tail
  have h0 := hc x (by simp)
  rcases List.mem_cons.1 hk with rfl | hk
  ·omega
  ·have := ih (g + dE x) x.b t1 t3 k hk
   unfold dE at this
   omega
theorem ks_rises : ∀ (E : List Ed) (g : Int), Asc E → (ks g E).Pairwise (· < ·) := by
 intro E
 induction E with
 | nil => intro g _; exact List.Pairwise.nil
 | cons x r ih =>
  intro g ha
  obtain ⟨t1, t2, t3⟩ := ha.tail
  refine List.pairwise_cons.2 ⟨fun k hk => ?_, ih _ t1⟩
  have := ks_gt r (g + dE x) x.b t1 t3 k hk
  unfold dE at this
  omega
theorem order_same {l : List (Int × Int)} (h : l.Pairwise rS) : orderN l = l := by
 have h1 := rS_sorted l [] (by simpa using h)
 rw [List.nil_append] at h1
 unfold orderN merged sorted
 rw [h1]
 have h2 := rS_merged l [] (by simpa using h)
 rw [List.nil_append] at h2
 exact h2
theorem carets_rS {l : List Int} (h : l.Pairwise (· < ·)) : (l.map (fun k => (k, k))).Pairwise rS := by
 rw [List.pairwise_map]
 refine h.imp (fun {a b} hab => ?_)
 unfold rS spanI
 simp only
 omega
theorem typed_sels {t : ByteArray} {q : List (Int × Int)} (h : q.Pairwise rS) : selsM (typedL t q) q = (ks 0 (typedL t q)).map (fun k => (k, k)) := by
 have ha := typed_asc (t := t) h
 have he : q.map (moveS (typedL t q)) = (ks 0 (typedL t q)).map (fun k => (k, k)) := by
  refine List.ext_getElem? (fun i => ?_)
  rw [List.getElem?_map, List.getElem?_map]
  cases hx : q[i]? with
  | none =>
   have : q.length ≤ i := List.getElem?_eq_none_iff.1 hx
   rw [List.getElem?_eq_none (by rw [ks_len, typedL_len]; exact this)]
   rfl
  | some x =>
   have hE : (typedL t q)[i]? = some ⟨(spanI x).1, (spanI x).2, t⟩ := by unfold typedL; rw [List.getElem?_map, hx]; rfl
   have k1 := (ks_fold _ 0 i _ x.1 ha hE (by unfold spanI; simp only; omega) (by unfold spanI; simp only; omega)).1
   have k2 := (ks_fold _ 0 i _ x.2 ha hE (by unfold spanI; simp only; omega) (by unfold spanI; simp only; omega)).1
   have e12 := k1.symm.trans k2
   rw [k1]
   show some (moveS (typedL t q) x) = some _
   unfold moveS
   rw [moveE_asc ha, moveE_asc ha]
   simp only [Option.some.injEq] at e12
   simp only [Int.add_zero] at e12 ⊢
   rw [← e12]
 unfold selsM
 rw [he]
 exact order_same (carets_rS (ks_rises _ 0 ha))
theorem asc_ord {n : Nat} {E : List Ed} (ha : Asc E) (hi : ∀ e ∈ E, 0 ≤ e.a ∧ e.b ≤ n) : Ord n 0 E := by
 have := ord_of (m := n) rfl (asc_rangedN ha hi)
 rwa [asc_sorted ha] at this
theorem apply_rest {s : By} {E : List Ed} (ha : Asc E) (hi : ∀ e ∈ E, 0 ≤ e.a ∧ e.b ≤ s.length) : applyL s E = rest s 0 E := by
 unfold applyL
 rw [asc_sorted ha, do_all_is s E 0 (asc_ord ha hi), List.take_zero, List.nil_append]
structure TyAt (s t : By) (E : List Ed) (i f a : Nat) : Prop where
 dr : t.drop a = rest s f (E.drop i)
 ord : Ord s.length f (E.drop i)
 kk : ks ((a : Int) - f) (E.drop i) = (ks 0 E).drop i
 le : a ≤ t.length
theorem parts4 {P X C R : By} {a m n : Nat} (h1 : P.length = a) (h2 : X.length = m) (h3 : C.length = n) :
  ((P ++ (X ++ C ++ R)).take (a + m)).drop a = X ∧ ((P ++ (X ++ C ++ R)).take (a + m + n)).drop (a + m) = C ∧ (P ++ (X ++ C ++ R)).drop (a + m + n) = R := by
 subst h1 h2 h3
 have e1 : P ++ (X ++ C ++ R) = (P ++ X) ++ (C ++ R) := by simp
 have e2 : P ++ (X ++ C ++ R) = (P ++ X ++ C) ++ R := by simp
 refine ⟨?_, ?_, ?_⟩
 ·rw [e1, show P.length + X.length = (P ++ X).length by simp, List.take_left, List.drop_left]
 ·rw [e2, show P.length + X.length + C.length = (P ++ X ++ C).length by simp [Nat.add_assoc], List.take_left, show P.length + X.length = (P ++ X).length by simp, List.drop_left]
 ·rw [e2, show P.length + X.length + C.length = (P ++ X ++ C).length by simp [Nat.add_assoc], List.drop_left]
theorem TyAt.step {s t : By} {E : List Ed} {i f a : Nat} {e : Ed} (h : TyAt s t E i f a) (he : E[i]? = some e) (h0 : 0 ≤ e.a) (h1 : 0 ≤ e.b) :
  ∃ k : Nat, (ks 0 E)[i]? = some (k : Int) ∧ k = a + (A e - f) + e.t.size ∧ k ≤ t.length ∧ (t.take k).drop (k - e.t.size) = e.t.data.toList ∧ (t.take (k - e.t.size)).drop a = (s.take (A e)).drop f ∧ TyAt s t E (i + 1) (Z e) k ∧ f ≤ A e ∧ A e ≤ Z e ∧ Z e ≤ s.length := by
 obtain ⟨hi, hei⟩ := List.getElem?_eq_some_iff.1 he
 have hd : E.drop i = e :: E.drop (i + 1) := by rw [List.drop_eq_getElem_cons hi, hei]
 obtain ⟨dr, ord, kk, le⟩ := h
 rw [hd] at dr ord kk
 obtain ⟨o1, o2, o3⟩ := ord
 have hA : ((A e : Nat) : Int) = e.a := Int.toNat_of_nonneg h0
 have hZ : ((Z e : Nat) : Int) = e.b := Int.toNat_of_nonneg h1
 have hZl : Z e ≤ s.length := o3.le
 have hk0 : (ks 0 E)[i]? = some (e.a + e.t.size + ((a : Int) - f)) := by
  have := congrArg List.head? kk
  rw [List.head?_drop] at this
  rw [← this]
  rfl
 have hk1 : ks ((a : Int) - f + dE e) (E.drop (i + 1)) = (ks 0 E).drop (i + 1) := by
  have := congrArg List.tail kk
  rw [List.tail_drop] at this
  exact this
 have hX : ((s.take (A e)).drop f).length = A e - f := by rw [List.length_drop, List.length_take]; omega
 have hC : e.t.data.toList.length = e.t.size := rfl
 have hP : (t.take a).length = a := by rw [List.length_take]; omega
 have ht : t = t.take a ++ ((s.take (A e)).drop f ++ e.t.data.toList ++ rest s (Z e) (E.drop (i + 1))) := by
  conv => lhs; rw [← List.take_append_drop a t, dr]
  rfl
 obtain ⟨p1, p2, p3⟩ := parts4 (R := rest s (Z e) (E.drop (i + 1))) hP hX hC
 rw [← ht] at p1 p2 p3
 refine ⟨a + (A e - f) + e.t.size, ?_, rfl, ?_, ?_, ?_, ⟨p3, o3, ?_, ?_⟩, o1, o2, hZl⟩
 ·rw [hk0]; congr 1; omega
 ·rw [ht]
  simp only [List.length_append, hP, hX, hC]
  omega
 ·rw [Nat.add_sub_cancel]; exact p2
 ·rw [Nat.add_sub_cancel]; exact p1
 ·rw [← hk1]
  congr 1
  unfold dE
  omega
 ·rw [ht]
  simp only [List.length_append, hP, hX, hC]
  omega
theorem TyAt.start {s : By} {E : List Ed} (ha : Asc E) (hi : ∀ e ∈ E, 0 ≤ e.a ∧ e.b ≤ s.length) : TyAt s (applyL s E) E 0 0 0 := by
 refine ⟨?_, ?_, ?_, Nat.zero_le _⟩
 ·rw [apply_rest ha hi]; rfl
 ·exact asc_ord ha hi
 ·rfl
theorem TyAt.end {s t : By} {E : List Ed} {i f a : Nat} (h : TyAt s t E i f a) (hi : E.length ≤ i) : t.drop a = s.drop f ∧ f ≤ s.length := by
 obtain ⟨dr, ord, _, _⟩ := h
 rw [List.drop_of_length_le hi] at dr ord
 exact ⟨dr, ord⟩
theorem erased_in {t : List UInt8} {forth : Bool} {q : List (Int × Int)} (h : InT t.length q) : ∀ e ∈ erasedL t forth q, 0 ≤ e.a ∧ e.a < e.b ∧ e.b ≤ t.length ∧ e.t = ⟨#[]⟩ := by
 intro e he
 obtain ⟨y, hy, rfl⟩ := List.mem_map.1 he
 have := gonesL_in h y hy
 unfold edOf
 simp only
 exact ⟨this.1, this.2.1, this.2.2, trivial⟩
theorem erased_asc {t : List UInt8} {forth : Bool} {q : List (Int × Int)} (h : InT t.length q) : Asc (erasedL t forth q) := by
 refine ⟨fun e he => ?_, ?_⟩
 ·have := erased_in h e he
  omega
 ·unfold erasedL
  rw [List.pairwise_map]
  exact gonesL_asc h
theorem erased_may {s : ByteArray} {forth : Bool} {q : List (Int × Int)} (h : InT s.size q) (hs : s.size ≤ 65536) : mayE s.size (erasedL s.data.toList forth q) = 0 := by
 have h' : InT (s.data.toList.length : Nat) q := h
 have ha := erased_asc (forth := forth) h'
 have hi := erased_in (forth := forth) h'
 have hl : s.data.toList.length = s.size := rfl
 have hr : rangedE s.size (erasedL s.data.toList forth q) = 0 := asc_rangedN ha (fun e he => by have := hi e he; omega)
 have hg := grownE_most (c := 0) (erasedL s.data.toList forth q) s.size (fun e he => by obtain ⟨_, h1, _, h3⟩ := hi e he; rw [h3]; exact ⟨by omega, Nat.le_refl _⟩)
 rw [mayE_fit hr, if_neg]
 simp only [Nat.mul_zero] at hg
 omega
def goneE (es : List Ed) : Int := es.foldl (fun g e => g + (e.b - e.a)) 0
theorem goneE_step {es : List Ed} {k : Nat} {e : Ed} (h : es[k]? = some e) : goneE (es.take (k + 1)) = goneE (es.take k) + (e.b - e.a) := by
 obtain ⟨hk, rfl⟩ := List.getElem?_eq_some_iff.1 h
 unfold goneE
 rw [List.take_succ_eq_append_getElem hk, List.foldl_append]
 rfl
theorem goneE_in {n : Int} {es : List Ed} (h : ∀ e ∈ es, 0 ≤ e.a ∧ e.a < e.b ∧ e.b ≤ n ∧ e.t = ⟨#[]⟩) : ∀ k : Nat, k ≤ es.length → 0 ≤ goneE (es.take k) ∧ goneE (es.take k) ≤ k * n := by
 intro k
 induction k with
 | zero => intro _; simp [goneE]
 | succ k ih =>
  intro hk
  have hk' : k < es.length := by omega
  have i := ih (by omega)
  have he := h es[k] (List.getElem_mem hk')
  rw [goneE_step (List.getElem?_eq_getElem hk')]
  rw [show ((k + 1 : Nat) : Int) * n = k * n + n by rw [Int.natCast_succ, Int.add_mul, Int.one_mul]]
  omega
theorem grownE_gone (n : Int) {es : List Ed} (h : ∀ e ∈ es, e.t = ⟨#[]⟩) : grownE n es = n - goneE es := by
 have : ∀ k, k ≤ es.length → grownE n (es.take k) = n - goneE (es.take k) := by
  intro k
  induction k with
  | zero => intro _; simp [grownE, goneE]
  | succ k ih =>
   intro hk
   have hk' : k < es.length := by omega
   have i := ih (by omega)
   have he := h es[k] (List.getElem_mem hk')
   rw [grownE_step n (List.getElem?_eq_getElem hk'), goneE_step (List.getElem?_eq_getElem hk'), i]
   unfold dE
   rw [he]
   show _ + (((0 : Nat) : Int) - _) = _
   omega
 have h2 := this es.length (Nat.le_refl _)
 rwa [List.take_of_length_le (Nat.le_refl _)] at h2
theorem spanI_full {x : Int × Int} (h : x.1 ≠ x.2) : (spanI x).1 < (spanI x).2 := by
 unfold spanI
 simp only
 omega
theorem erased_within {t : List UInt8} {forth : Bool} {q : List (Int × Int)} (h : InT t.length q) : ∀ x ∈ q, x.1 ≠ x.2 → ∃ e ∈ erasedL t forth q, e.a ≤ (spanI x).1 ∧ (spanI x).2 ≤ e.b := by
 intro x hx hne
 have hg : goneS t forth x = spanI x := by unfold goneS; rw [if_neg hne]
 have hm : goneS t forth x ∈ q.map (goneS t forth) := List.mem_map.2 ⟨x, hx, rfl⟩
 obtain ⟨y, hy, h1, h2⟩ := unionL_in (fun y hy => (gones_in h y hy).2.1) _ hm
 rw [hg] at h1 h2
 have hf := spanI_full hne
 refine ⟨edOf y, List.mem_map.2 ⟨y, List.mem_filter.2 ⟨hy, ?_⟩, rfl⟩, h1, h2⟩
 unfold fullB
 exact decide_eq_true (by omega)
theorem fold_both {E : List Ed} (ha : Asc E) {e : Ed} (he : e ∈ E) {o p : Int} (h1 : e.a ≤ o) (h2 : o ≤ e.b) (h3 : e.a ≤ p) (h4 : p ≤ e.b) : foldE true E o = foldE true E p := by
 obtain ⟨i, hi⟩ := List.mem_iff_getElem?.1 he
 have k1 := (ks_fold E 0 i e o ha hi h1 h2).1
 have k2 := (ks_fold E 0 i e p ha hi h3 h4).1
 have := k1.symm.trans k2
 simp only [Option.some.injEq] at this
 omega
theorem erased_carets {t : List UInt8} {forth : Bool} {q : List (Int × Int)} (h : InT t.length q) : ∀ x ∈ selsM (erasedL t forth q) q, x.1 = x.2 := by
 have ha := erased_asc (forth := forth) h
 unfold selsM
 refine orderN_carets (fun y hy => ?_)
 obtain ⟨x, hx, rfl⟩ := List.mem_map.1 hy
 unfold moveS
 simp only
 rw [moveE_asc ha, moveE_asc ha]
 by_cases e : x.1 = x.2
 ·rw [e]
 ·obtain ⟨ed, he, h1, h2⟩ := erased_within (forth := forth) h x hx e
  unfold spanI at h1 h2
  simp only at h1 h2
  exact fold_both ha he (by omega) (by omega) (by omega) (by omega)
end Go.Gim

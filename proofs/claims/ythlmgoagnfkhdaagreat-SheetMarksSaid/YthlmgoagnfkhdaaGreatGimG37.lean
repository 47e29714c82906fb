/- change.Back. Conditions: a text of at most 65536 bytes, fewer than 20 edits of at most 100000 bytes each. -/
import Derived.Test.YthlmgoagnfkhdaaGreatGimG36
set_option maxHeartbeats 6400000
set_option maxRecDepth 1000000
set_option linter.unusedVariables false
set_option linter.unusedSimpArgs false
namespace Go.Gim
theorem backT_step (s : ByteArray) {S : List Ed} {k : Nat} {x : Ed} (hx : S[k]? = some x) : backT s (S.take (k + 1)) = backStep s (backT s (S.take k)) x := by
 obtain ⟨hk, rfl⟩ := List.getElem?_eq_some_iff.1 hx
 unfold backT
 rw [List.take_succ_eq_append_getElem hk, List.foldl_append]
 rfl
theorem oldE_le (s : ByteArray) {e : Ed} (h : EdOk e) : ((oldE s e).size : Int) ≤ 65536 := by
 obtain ⟨h1, h2, h3, _⟩ := h
 unfold oldE
 rw [ByteArray.size_extract]
 omega
structure BkBd (st : Bk) (k : Nat) : Prop where
 len : st.out.length ≤ k
 g0 : -((k : Int) * 65536) ≤ st.g
 g1 : st.g ≤ (k : Int) * 100000
 b : ∀ y ∈ st.out, -((k : Int) * 65536) ≤ y.b ∧ y.b ≤ 65536 + (k : Int) * 200000 ∧ (y.t.size : Int) ≤ (k : Int) * 65536
theorem BkBd.step {s : ByteArray} {st : Bk} {k : Nat} (h : BkBd st k) {x : Ed} (hx : EdOk x) : BkBd (backStep s st x) (k + 1) := by
 have ho := oldE_le s hx
 obtain ⟨x1, x2, x3, x4⟩ := hx
 have g0 := h.g0
 have g1 := h.g1
 have hl := h.len
 have hnew : ∀ y ∈ st.out ++ [newE s st.g x], -(((k + 1 : Nat) : Int) * 65536) ≤ y.b ∧ y.b ≤ 65536 + ((k + 1 : Nat) : Int) * 200000 ∧ (y.t.size : Int) ≤ ((k + 1 : Nat) : Int) * 65536 := by
  intro y hy
  rcases List.mem_append.1 hy with hy | hy
  ·obtain ⟨b1, b2, b3⟩ := h.b y hy
   exact ⟨by omega, by omega, by omega⟩
  ·rw [List.mem_singleton.1 hy]
   unfold newE
   simp only
   refine ⟨by omega, by omega, by omega⟩
 have hlen : (st.out ++ [newE s st.g x]).length ≤ k + 1 := by rw [List.length_append, List.length_singleton]; omega
 refine ⟨?_, ?_, ?_, ?_⟩
 ·show (backOut s st x).length ≤ k + 1
  unfold backOut
  split
  ·split
   ·rw [List.length_set]; omega
   ·exact hlen
  ·exact hlen
 ·show -(((k + 1 : Nat) : Int) * 65536) ≤ st.g + dE x
  unfold dE; omega
 ·show st.g + dE x ≤ ((k + 1 : Nat) : Int) * 100000
  unfold dE; omega
 ·show ∀ y ∈ backOut s st x, _
  unfold backOut
  split
  ·rename_i z hz
   split
   ·intro y hy
    rcases List.mem_or_eq_of_mem_set hy with hy | rfl
    ·obtain ⟨b1, b2, b3⟩ := h.b y hy
     exact ⟨by omega, by omega, by omega⟩
    ·obtain ⟨b1, b2, b3⟩ := h.b z (List.mem_of_getLast? hz)
     simp only
     refine ⟨by omega, by omega, ?_⟩
     rw [ByteArray.size_append]
     omega
   ·exact hnew
  ·exact hnew
theorem backT_bd {s : ByteArray} {S : List Ed} (hok : ∀ e ∈ S, EdOk e) : ∀ k, k ≤ S.length → BkBd (backT s (S.take k)) k := by
 intro k
 induction k with
 | zero => intro _; exact ⟨by simp [backT], by simp [backT], by simp [backT], by simp [backT]⟩
 | succ k ih =>
  intro hk
  rw [backT_step s (List.getElem?_eq_getElem (by omega : k < S.length))]
  exact (ih (by omega)).step (hok _ (List.getElem_mem _))
theorem backOut_new {s : ByteArray} {st : Bk} {x : Ed} (h : st.out = [] ∨ x.a ≠ st.e) : backOut s st x = st.out ++ [newE s st.g x] := by
 unfold backOut
 split
 ·rename_i y hy
  rcases h with h | h
  ·rw [h] at hy; cases hy
  ·rw [if_neg h]
 ·rfl
theorem backOut_add {s : ByteArray} {st : Bk} {x y : Ed} (hy : st.out.getLast? = some y) (h : x.a = st.e) : backOut s st x = st.out.set (st.out.length - 1) ⟨y.a, y.b + x.t.size, y.t ++ oldE s x⟩ := by
 unfold backOut
 rw [hy]
 simp only
 rw [if_pos h]
end Go.Gim
namespace Go.Proofs.YthlmgoagnfkhdaaGreat
open Go.RowKit Go.Gim
def BackPost (s : ByteArray) (l : List Ed) (w : World) (e : Ending) (w' : World) : Prop :=
 ∃ a2 c2, e = .returned (.tuple #[.slice a2 (backE s l).length c2, .int .i64 0]) ∧ w'.ownsRow w.heap.size 59 3 (.slice a2 (backE s l).length c2) (backE s l).length (edE.cells (backE s l)) ∧ Ext w w'
theorem cback_yes (s : ByteArray) (ao : Option Addr) (cap : Nat) (l : List Ed) (w : World) (hs : s.size ≤ 65536) (hr : Reads w 3 ao l.length (edE.cells l)) (hn : l.length ≤ 19) (ht : ∀ e ∈ l, e.t.size ≤ 100000) (hm : mayE s.size l = 0) :
  Calls Tryz.prog 47 #[.string s, .slice ao l.length cap] w (BackPost s l w) := by
 have hl1 : maxLen = 9223372036854775807 := rfl
 have HM := Lib.hid (cmay_any s.size ao cap l w hr hn (by omega) (by omega) ht)
 rw [hm] at HM
 have hrz : rangedE s.size l = 0 := by
  rcases rangedE_or s.size l with h | h | h
  ·exact h
  ·rw [mayE_bad (by rw [h]; decide), h] at hm; cases hm
  ·rw [mayE_bad (by rw [h]; decide), h] at hm; cases hm
 have hok : ∀ e ∈ sorted lessE l, EdOk e := fun e he => by
  have he := (sorted_mem lessE l e).1 he
  obtain ⟨h1, h2, h3⟩ := rangedE_mem hrz e he
  exact ⟨h1, h2, by omega, ht e he⟩
 have hin : ∀ e ∈ sorted lessE l, e.b ≤ s.size := fun e he => (rangedE_mem hrz e ((sorted_mem lessE l e).1 he)).2.2
 have HSo := Lib.hid (fun w' (h : Ext w w') => sortC_any ao cap l w' (hr.mod h (fun _ _ f => f)) hn)
 have hSl := sorted_length lessE l
 have Hbd := Lib.hid (backT_bd (s := s) hok)
 have Hok := Lib.hid hok
 have Hin := Lib.hid hin
 have Hfin := Lib.hid (show backE s l = (backT s (sorted lessE l)).out from rfl)
 unfold BackPost
 generalize sorted lessE l = S at *
 generalize backE s l = E at *
 obtain ⟨N, hN⟩ : ∃ N, N = l.length := ⟨_, rfl⟩
 rw [← hN] at hn hSl HSo HM ⊢
 have HSl := Lib.hid hSl
 clear hr hN ht hm hrz hok hin hSl
 go_enter Tryz.func47, Tryz.ntmps47
 go_wp2_with fail
 refine HM.out.mono ?_
 rintro e w1 ⟨rfl, hx1⟩
 have HSo2 := Lib.hid (HSo.out w1 hx1)
 clear HM HSo
 go_wp2_with fail
 refine HSo2.out.mono ?_
 rintro e w2 ⟨a1, c1, rfl, hrd, -, hx2⟩
 have Hrd := Lib.hid hrd
 have hx0 := hx1.ext_trans hx2
 have hz2 := hx0.size
 clear HSo2 hrd hx1 hx2
 go_wp2_with fail
 go_loopw [7, 8, 9, 25] (fun v g en i wr => ∃ k : Nat, k ≤ N ∧ i = .int .i64 k ∧ g = .int .i64 (backT s (S.take k)).g ∧ en = .int .i64 (backT s (S.take k)).e ∧ Hid (wr.ownsRow w2.heap.size 59 3 v (backT s (S.take k)).out.length (edE.cells (backT s (S.take k)).out)) ∧ Ext w wr ∧ Ext w2 wr) (fun _ _ _ i _ => N - (intOf i).toNat)
 case atStart => exact ⟨0, by omega, rfl, rfl, rfl, Lib.hid (World.ownsRow_nil _ _ _ _), hx0, Mod.refl _ _⟩
 case round =>
  obtain ⟨k, hk, rfl, rfl, rfl, HO, hx, hy⟩ := hrel
  by_cases hlt : k < N
  ·have hlt' : (k : Int) < (N : Int) := by omega
   have hk0 : (0 : Int) ≤ (k : Int) := by omega
   obtain ⟨b, off, rfl⟩ := Hrd.out.some (by omega)
   have hlk : k < S.length := by rw [HSl.out]; exact hlt
   obtain ⟨c0, c1', c2⟩ := rdEd_at (Hrd.out.mod hy (fun _ _ f => f)) (List.getElem?_eq_getElem hlk)
   have Hst := Lib.hid (backT_step s (List.getElem?_eq_getElem hlk))
   have hbd := Hbd.out k (by omega)
   have HO1 := Lib.hid (oldE_le s (Hok.out _ (List.getElem_mem hlk)))
   obtain ⟨x1, x2, x3, x4⟩ := Hok.out _ (List.getElem_mem hlk)
   have x5 := Hin.out _ (List.getElem_mem hlk)
   generalize S[k] = x at *
   generalize backT s (S.take k) = st at *
   obtain ⟨out, g, en⟩ := st
   obtain ⟨d1, d2, d3, d4⟩ := hbd
   simp only at d1 d2 d3 d4 HO
   have HB4 := Lib.hid d4
   have HL := Lib.hid (fun w' => spLen_any (x.a, x.b) w' (by simp only; omega) (by simp only; omega))
   obtain ⟨va, vc, hva, _, _⟩ := ownsRow_shape HO.out
   subst hva
   have Hlow := Lib.hid (fun i hi => (HO.out.lt i hi).2)
   have hbl := World.block_lt_of_cell? wr _ c0
   clear hlk d4
   go_upto_region 11 with fail
   obtain ⟨u, hu⟩ : ∃ u, u = wr.alloc (.cells #[.int .i64 x.a, .int .i64 x.b, .string x.t] 59) := ⟨_, rfl⟩
   have hxu : Ext wr u := by rw [hu]; exact (Mod.refl _ wr).alloc _
   have hbu : Blk u wr.heap.size 59 #[.int .i64 x.a, .int .i64 x.b, .string x.t] := by rw [hu]; exact Blk.new _ _ _
   rw [← hu]
   clear c0 c1' c2 hbl hu
   have c0 : u.cell? ⟨wr.heap.size, 0, none⟩ = some (.int .i64 x.a) := hbu.cell 0
   have c1' : u.cell? ⟨wr.heap.size, 1, none⟩ = some (.int .i64 x.b) := hbu.cell 1
   have c2 : u.cell? ⟨wr.heap.size, 2, none⟩ = some (.string x.t) := hbu.cell 2
   have hlu := hbu.lt
   have s1 : IntKind.i64.wrap ((x.t.size : Int) - (x.b - x.a)) = (x.t.size : Int) - (x.b - x.a) := IntWalk.i64_in _ (by omega)
   have s2 : IntKind.i64.wrap (g + ((x.t.size : Int) - (x.b - x.a))) = g + ((x.t.size : Int) - (x.b - x.a)) := IntWalk.i64_in _ (by omega)
   refine wp_region_ext_lit (by kernel_rfl) (by kernel_rfl) ?_
   repeat (go_big_quiet_step (exact Calls.ext_of (HL.out _)))
   refine wpQuiet_nil ?_
   intro we hxe
   have hbe := hbu.mod hxe (fun f => f)
   have hxw := hxu.ext_trans hxe
   have HOe := Lib.hid (ownsRow_mod HO.out hxw (fun _ _ f => f))
   have hxB := hx.ext_trans hxw
   have hyB := hy.ext_trans hxw
   clear c0 c1' c2 hlu hbu hxu hxe HL s1 s2 HO hx hy
   have c0 : we.cell? ⟨wr.heap.size, 0, none⟩ = some (.int .i64 x.a) := hbe.cell 0
   have c1' : we.cell? ⟨wr.heap.size, 1, none⟩ = some (.int .i64 x.b) := hbe.cell 1
   have c2 : we.cell? ⟨wr.heap.size, 2, none⟩ = some (.string x.t) := hbe.cell 2
   have hlu := hbe.lt
   rcases Nat.eq_zero_or_pos out.length with hz | hz
   ·have HZ := Lib.hid (backOut_new (s := s) (st := ⟨out, g, en⟩) (x := x) (.inl (List.eq_nil_of_length_eq_zero hz)))
    have hz1 : (out.length : Int) - 1 = -1 := by omega
    have hj0 : ¬ (0 : Int) ≤ -1 := by omega
    go_upto_region 17 with fail
    clear hz hz1 hj0
    have HStep := Lib.hid (show backT s (S.take (k + 1)) = ⟨out ++ [newE s g x], g + dE x, x.b⟩ by rw [Hst.out]; unfold backStep; rw [HZ.out])
    go_wp2_with (at_builtin; refine wpList_append_reads rfl _ _ 35 rfl w2.heap.size 59 _ 3 32 Tryz.info59 Tryz.underlying35 rfl (by decide) _ out.length _ rfl (HOe.out.alloc _) _ 1 1 [.int .i64 (x.a + g), .int .i64 (x.a + g + x.t.size), .string (oldE s x)] rfl ?hrd (edE.one (newE s g x)) (by omega) (by omega) ?hbs ?_)
    case hrd =>
     have := Reads.new we 59 #[.int .i64 (x.a + g), .int .i64 (x.a + g + x.t.size), .string (oldE s x)] 3 1 rfl
     simpa [oldE] using this
    case hbs => have := hyB.size; simp; omega
    intro v' w4 hown hm4 hbk
    have hal : Ext we (we.alloc (.cells #[.int .i64 (x.a + g), .int .i64 (x.a + g + x.t.size), .string (oldE s x)] 59)) := (Mod.refl _ we).alloc _
    have hx4 := (hxB.ext_trans hal).over hm4 (fun i hi => Nat.le_trans hz2 (HOe.out.lt i hi).1)
    have hy4 := (hyB.ext_trans hal).over hm4 (fun i hi => (HOe.out.lt i hi).1)
    have hb4 := (hbe.mod hal (fun f => f)).mod hm4 (fun e => Nat.lt_irrefl _ (Hlow.out _ e))
    have Hown := Lib.hid hown
    clear hm4 hbk hown c0 c1' c2 hlu hal
    have c1' : w4.cell? ⟨wr.heap.size, 1, none⟩ = some (.int .i64 x.b) := hb4.cell 1
    have hlu := hb4.lt
    go_wp2_with fail
    go_roundw
    case rel => exact ⟨k + 1, by omega, by go_num, by rw [HStep.out]; rfl, by rw [HStep.out], Lib.hid (by rw [HStep.out, edE.cells_append, List.length_append, List.length_singleton]; exact Hown.out), hx4, hy4⟩
    case measure => simp [intOf]; omega
   ·obtain ⟨j, hj⟩ : ∃ j, out.length = j + 1 := ⟨out.length - 1, by omega⟩
    have hz1 : (out.length : Int) - 1 = (j : Int) := by omega
    have hjm : (j : Int) < (out.length : Int) := by omega
    have hj0 : (0 : Int) ≤ (j : Int) := by omega
    have HJ := Lib.hid hj
    clear hj hz
    by_cases he : x.a = en
    ·have he1 : (x.a == en) = true := by simpa using he
     obtain ⟨g0, gc, hg0⟩ := Enc.owns_some (E := edE) HOe.out (by rw [HJ.out]; omega)
     injection hg0 with e1 e2 e3
     subst e1
     subst e3
     clear e2
     have hjo : j < out.length := by omega
     obtain ⟨y, hjl⟩ : ∃ y, out[j]? = some y := ⟨_, List.getElem?_eq_getElem hjo⟩
     have hla : out.getLast? = some y := by rw [List.getLast?_eq_getElem?, show out.length - 1 = j from by have := HJ.out; omega]; exact hjl
     obtain ⟨b1, b2, b3⟩ := HB4.out _ (List.mem_of_getElem? hjl)
     clear hjo
     have HZ := Lib.hid (backOut_add (s := s) (st := ⟨out, g, en⟩) (x := x) (y := y) hla he)
     have Hjl := Lib.hid hjl
     have ho2 := HO1.out
     have y0 := Enc.owns_cell (E := edE) HOe.out hjl (j := 0) rfl
     have y1 := Enc.owns_cell (E := edE) HOe.out hjl (j := 1) rfl
     have y2 := Enc.owns_cell (E := edE) HOe.out hjl (j := 2) rfl
     rw [show edE.k = 3 from rfl] at y0 y1 y2
     rw [Nat.add_zero] at y0
     have f1 := Enc.owns_free (E := edE) HOe.out (j * 3 + 1)
     have f2 := Enc.owns_free (E := edE) HOe.out (j * 3 + 2)
     have hgl := (Enc.owns_block (E := edE) HOe.out).2
     have hne : g0 ≠ wr.heap.size := fun e => Nat.lt_irrefl _ (Hlow.out _ (by rw [e]; rfl))
     clear hjl hla he
     go_upto_region 15 with fail
     refine wp_region_ext_tail 13 (by kernel_rfl) (by kernel_rfl) ?_
     simp only [List.take_succ_cons, List.take_zero, List.drop_succ_cons, List.drop_zero]
     repeat (go_big_quiet_step (fail))
     refine wpQuiet_nil ?_
     intro wf hxf
     have HOf := Lib.hid (ownsRow_mod HOe.out hxf (fun _ _ f => f))
     have hbf := hbe.mod hxf (fun f => f)
     have hxF := hxB.ext_trans hxf
     have hyF := hyB.ext_trans hxf
     clear c0 c1' c2 hlu hbe y0 y1 y2 f1 f2 hgl hxf hxB hyB HOe
     have c1' : wf.cell? ⟨wr.heap.size, 1, none⟩ = some (.int .i64 x.b) := hbf.cell 1
     have hlu := hbf.lt
     have y1 := Enc.owns_cell (E := edE) HOf.out Hjl.out (j := 1) rfl
     have y2 := Enc.owns_cell (E := edE) HOf.out Hjl.out (j := 2) rfl
     rw [show edE.k = 3 from rfl] at y1 y2
     have f1 := Enc.owns_free (E := edE) HOf.out (j * 3 + 1)
     have f2 := Enc.owns_free (E := edE) HOf.out (j * 3 + 2)
     have hgl := (Enc.owns_block (E := edE) HOf.out).2
     have hgb := (Enc.owns_block (E := edE) HOf.out).1
     have ho3 : ((s.extract x.a.toNat x.b.toNat).size : Int) ≤ 65536 := ho2
     have hcat : ¬ (9223372036854775807 : Int) < (y.t.size : Int) + ((s.extract x.a.toNat x.b.toNat).size : Int) := by omega
     have hne2 : ¬ wr.heap.size = g0 := fun e => hne e.symm
     have hs1 := Enc.owns_set (E := edE) HOf.out Hjl.out (j := 1) (by decide) (v := .int .i64 (y.b + x.t.size)) ⟨y.a, y.b + x.t.size, y.t⟩ rfl
     have hs2 := Enc.owns_set2 (E := edE) hs1 (List.getElem?_eq_some_iff.1 Hjl.out).1 (j := 2) (by decide) (v := .string (y.t ++ oldE s x)) (y := ⟨y.a, y.b + x.t.size, y.t ++ oldE s x⟩) rfl
     have HS2 := Lib.hid hs2
     have HStep := Lib.hid (show backT s (S.take (k + 1)) = ⟨out.set (out.length - 1) ⟨y.a, y.b + x.t.size, y.t ++ oldE s x⟩, g + dE x, x.b⟩ by rw [Hst.out]; unfold backStep; rw [HZ.out])
     clear hs1 hs2
     go_wp2_with fail
     go_roundw
     case rel =>
      refine ⟨k + 1, by omega, by go_num, by rw [HStep.out]; rfl, by rw [HStep.out], Lib.hid ?_, ?_, ?_⟩
      ·rw [HStep.out]
       simp only
       rw [List.length_set, show out.length - 1 = j from by have := HJ.out; omega]
       exact HS2.out
      ·exact (hxF.setCell (p := ⟨g0, j * 3 + 1, none⟩) (fun h => absurd h (by simp only; omega)) _).setCell (p := ⟨g0, j * 3 + 2, none⟩) (fun h => absurd h (by simp only; omega)) _
      ·exact (hyF.setCell (p := ⟨g0, j * 3 + 1, none⟩) (fun h => absurd h (by simp only; omega)) _).setCell (p := ⟨g0, j * 3 + 2, none⟩) (fun h => absurd h (by simp only; omega)) _
     case measure => simp [intOf]; omega
    ·have he1 : (x.a == en) = false := by simpa using he
     have HZ := Lib.hid (backOut_new (s := s) (st := ⟨out, g, en⟩) (x := x) (.inr he))
     go_upto_region 17 with fail
     have HStep := Lib.hid (show backT s (S.take (k + 1)) = ⟨out ++ [newE s g x], g + dE x, x.b⟩ by rw [Hst.out]; unfold backStep; rw [HZ.out])
     go_wp2_with (at_builtin; refine wpList_append_reads rfl _ _ 35 rfl w2.heap.size 59 _ 3 32 Tryz.info59 Tryz.underlying35 rfl (by decide) _ out.length _ rfl (HOe.out.alloc _) _ 1 1 [.int .i64 (x.a + g), .int .i64 (x.a + g + x.t.size), .string (oldE s x)] rfl ?hrd (edE.one (newE s g x)) (by omega) (by omega) ?hbs ?_)
     case hrd =>
      have := Reads.new we 59 #[.int .i64 (x.a + g), .int .i64 (x.a + g + x.t.size), .string (oldE s x)] 3 1 rfl
      simpa [oldE] using this
     case hbs => have := hyB.size; simp; omega
     intro v' w4 hown hm4 hbk
     have hal : Ext we (we.alloc (.cells #[.int .i64 (x.a + g), .int .i64 (x.a + g + x.t.size), .string (oldE s x)] 59)) := (Mod.refl _ we).alloc _
     have hx4 := (hxB.ext_trans hal).over hm4 (fun i hi => Nat.le_trans hz2 (HOe.out.lt i hi).1)
     have hy4 := (hyB.ext_trans hal).over hm4 (fun i hi => (HOe.out.lt i hi).1)
     have hb4 := (hbe.mod hal (fun f => f)).mod hm4 (fun e => Nat.lt_irrefl _ (Hlow.out _ e))
     have Hown := Lib.hid hown
     clear hm4 hbk hown c0 c1' c2 hlu hal
     have c1' : w4.cell? ⟨wr.heap.size, 1, none⟩ = some (.int .i64 x.b) := hb4.cell 1
     have hlu := hb4.lt
     go_wp2_with fail
     go_roundw
     case rel => exact ⟨k + 1, by omega, by go_num, by rw [HStep.out]; rfl, by rw [HStep.out], Lib.hid (by rw [HStep.out, edE.cells_append, List.length_append, List.length_singleton]; exact Hown.out), hx4, hy4⟩
     case measure => simp [intOf]; omega
  ·have hlt' : ¬ (k : Int) < (N : Int) := by omega
   obtain rfl : k = N := by omega
   have hO := HO.out
   rw [List.take_of_length_le (by rw [HSl.out]; exact Nat.le_refl _), ← Hfin.out] at hO
   obtain ⟨va, vc, hva, _, _⟩ := ownsRow_shape hO
   subst hva
   have HO2 := Lib.hid hO
   clear hO HO
   go_wp2_with fail
   go_ret2
   exact ⟨va, vc, rfl, ownsRow_base HO2.out hz2, hx⟩
end Go.Proofs.YthlmgoagnfkhdaaGreat
namespace Go.Gim
theorem doE_mid (e : Ed) (P Q M X : By) (h0 : e.a = (P.length : Int)) (h1 : e.b = ((P.length + M.length : Nat) : Int)) (hQ : e.t.data.toList = Q) : doE e (P ++ M ++ X) = P ++ Q ++ X := by
 have e1 : (P ++ M ++ X).take P.length = P := by rw [List.append_assoc, List.take_left]
 have e2 : (P ++ M ++ X).drop (P.length + M.length) = X := by rw [← List.length_append, List.drop_left]
 unfold doE splice
 rw [h0, h1, hQ, Int.toNat_natCast, Int.toNat_natCast, e1, e2, List.append_assoc]
theorem old_list (s : ByteArray) (e : Ed) : (oldE s e).data.toList = (s.data.toList.take (Z e)).drop (A e) := by
 unfold oldE A Z
 rw [ByteArray.data_extract]
 simp [Array.toList_extract, List.extract_eq_take_drop, List.drop_take]
structure BkIn (s : ByteArray) (l : List Ed) (st : Bk) (P : By) (c k : Nat) : Prop where
 len : (P.length : Int) = c + st.g
 cz : c ≤ s.size
 at_ : st.out = [] ∧ st.e = -1 ∨ st.e = c
 turn : ∀ X, st.out.foldr doE (P ++ X) = s.data.toList.take c ++ X
 text : rest s.data.toList 0 l = P ++ rest s.data.toList c (l.drop k)
 asc : Asc st.out
 mem : ∀ e ∈ st.out, 0 ≤ e.a ∧ e.b ≤ P.length
 last : ∀ y, st.out.getLast? = some y → y.b = P.length
theorem bkIn_step {s : ByteArray} {l : List Ed} {st : Bk} {P : By} {c k : Nat} (h : BkIn s l st P c k) {x : Ed} (hx : l[k]? = some x) (hx0 : 0 ≤ x.a ∧ 0 ≤ x.b) (hO : Ord s.size c (l.drop k)) : ∃ P', BkIn s l (backStep s st x) P' (Z x) (k + 1) ∧ Ord s.size (Z x) (l.drop (k + 1)) := by
 obtain ⟨hk, rfl⟩ := List.getElem?_eq_some_iff.1 hx
 have hd := List.drop_eq_getElem_cons hk
 have htext := h.text
 rw [hd] at hO htext
 generalize l[k] = x at *
 have hA : ((A x : Nat) : Int) = x.a := Int.toNat_of_nonneg hx0.1
 have hZe : ((Z x : Nat) : Int) = x.b := Int.toNat_of_nonneg hx0.2
 obtain ⟨o1, o2, o3⟩ := hO
 have hZ := o3.le
 have hsl : s.data.toList.length = s.size := rfl
 have hmid : (((s.data.toList.take (A x)).drop c).length : Int) = A x - c := by rw [List.length_drop, List.length_take]; omega
 have htl : x.t.data.toList.length = x.t.size := rfl
 have hlen := h.len
 have hadd : s.data.toList.take c ++ ((s.data.toList.take (A x)).drop c ++ (oldE s x).data.toList) = s.data.toList.take (Z x) := by
  rw [old_list, ← List.append_assoc, take_split _ o1, take_split _ o2]
 refine ⟨P ++ (s.data.toList.take (A x)).drop c ++ x.t.data.toList, ?_, o3⟩
 have hPl : ((P ++ (s.data.toList.take (A x)).drop c ++ x.t.data.toList).length : Int) = Z x + (st.g + dE x) := by
  rw [List.length_append, List.length_append]
  unfold dE
  omega
 have htx : rest s.data.toList 0 l = P ++ (s.data.toList.take (A x)).drop c ++ x.t.data.toList ++ rest s.data.toList (Z x) (l.drop (k + 1)) := by
  rw [htext]
  show P ++ ((s.data.toList.take (A x)).drop c ++ x.t.data.toList ++ rest s.data.toList (Z x) (l.drop (k + 1))) = _
  rw [List.append_assoc, List.append_assoc, List.append_assoc]
 by_cases hnew : st.out = [] ∨ x.a ≠ st.e
 ·have ho : (backStep s st x).out = st.out ++ [newE s st.g x] := backOut_new hnew
  have hgap : ∀ e ∈ st.out, e.b < x.a + st.g := by
   intro e he
   have hm := (h.mem e he).2
   rcases hnew with hn | hn
   ·rw [hn] at he; cases he
   ·rcases h.at_ with ⟨hn2, _⟩ | hc
    ·rw [hn2] at he; cases he
    ·have : (c : Int) < x.a := by omega
     omega
  refine ⟨hPl, hZ, .inr hZe.symm, fun X => ?_, htx, ?_, ?_, ?_⟩
  ·rw [ho, List.foldr_append]
   show st.out.foldr doE (doE (newE s st.g x) (P ++ (s.data.toList.take (A x)).drop c ++ x.t.data.toList ++ X)) = _
   rw [doE_mid (newE s st.g x) (P ++ (s.data.toList.take (A x)).drop c) (oldE s x).data.toList x.t.data.toList X (by unfold newE; simp only; rw [List.length_append]; omega) (by unfold newE; simp only; rw [List.length_append]; omega) rfl, List.append_assoc, List.append_assoc, h.turn, ← hadd]
   simp only [List.append_assoc]
  ·rw [ho]
   refine ⟨fun e he => ?_, List.pairwise_append.2 ⟨h.asc.2, List.pairwise_singleton _ _, fun e he f hf => ?_⟩⟩
   ·rcases List.mem_append.1 he with he | he
    ·exact h.asc.1 e he
    ·rw [List.mem_singleton.1 he]; show x.a + st.g ≤ x.a + st.g + x.t.size; omega
   ·rw [List.mem_singleton.1 hf]; exact hgap e he
  ·rw [ho]
   intro e he
   rcases List.mem_append.1 he with he | he
   ·have := h.mem e he
    refine ⟨this.1, ?_⟩
    rw [List.length_append, List.length_append]
    omega
   ·rw [List.mem_singleton.1 he]
    unfold newE
    simp only
    have hg0 : -(c : Int) ≤ st.g := by omega
    refine ⟨by omega, ?_⟩
    rw [hPl]; unfold dE; omega
  ·rw [ho]
   intro y hy
   rw [List.getLast?_append] at hy
   simp at hy
   rw [← hy, hPl]
   unfold newE dE
   simp only
   omega
 ·have hne : st.out ≠ [] := fun e => hnew (.inl e)
  have he : x.a = st.e := Classical.byContradiction fun e => hnew (.inr e)
  have hc : st.e = c := h.at_.resolve_left (fun e => hne e.1)
  have hAc : A x = c := by omega
  obtain ⟨y, hy⟩ : ∃ y, st.out.getLast? = some y := ⟨_, List.getLast?_eq_some_getLast hne⟩
  have ho : (backStep s st x).out = st.out.set (st.out.length - 1) ⟨y.a, y.b + x.t.size, y.t ++ oldE s x⟩ := backOut_add hy he
  have hsplit : st.out = st.out.dropLast ++ [y] := by
   have h1 := List.dropLast_concat_getLast hne
   rw [List.getLast?_eq_some_getLast hne] at hy
   rw [← Option.some.inj hy]
   exact h1.symm
  generalize hB0 : st.out.dropLast = B0 at *
  have hyb := h.last y hy
  have hset : st.out.set (st.out.length - 1) ⟨y.a, y.b + x.t.size, y.t ++ oldE s x⟩ = B0 ++ [⟨y.a, y.b + x.t.size, y.t ++ oldE s x⟩] := by
   rw [hsplit, List.length_append, List.length_singleton, Nat.add_sub_cancel, List.set_append_right _ _ (Nat.le_refl _), Nat.sub_self]
   rfl
  rw [hset] at ho
  have hmid0 : (s.data.toList.take (A x)).drop c = [] := List.eq_nil_of_length_eq_zero (by omega)
  rw [hmid0, List.append_nil] at hPl htx ⊢
  rw [hmid0, List.nil_append] at hadd
  have hym := h.mem y (by rw [hsplit]; exact List.mem_append.2 (.inr (List.mem_singleton.2 rfl)))
  have hya := h.asc.1 y (by rw [hsplit]; exact List.mem_append.2 (.inr (List.mem_singleton.2 rfl)))
  have hyn : ((y.a.toNat : Nat) : Int) = y.a := Int.toNat_of_nonneg hym.1
  have hPs : P = P.take y.a.toNat ++ P.drop y.a.toNat := (List.take_append_drop _ _).symm
  have hPt : (P.take y.a.toNat).length = y.a.toNat := by rw [List.length_take]; omega
  have hPd : (P.drop y.a.toNat).length = P.length - y.a.toNat := List.length_drop
  have hasc := h.asc
  have hmem := h.mem
  rw [hsplit] at hasc hmem
  obtain ⟨q1, q2, q3⟩ := List.pairwise_append.1 hasc.2
  refine ⟨hPl, hZ, .inr hZe.symm, fun X => ?_, htx, ?_, ?_, ?_⟩
  ·have ht := h.turn ((oldE s x).data.toList ++ X)
   rw [hsplit, List.foldr_append] at ht
   have e1 : doE y (P ++ ((oldE s x).data.toList ++ X)) = P.take y.a.toNat ++ (y.t.data.toList) ++ ((oldE s x).data.toList ++ X) := by
    have := doE_mid y (P.take y.a.toNat) y.t.data.toList (P.drop y.a.toNat) ((oldE s x).data.toList ++ X) (by rw [hPt]; exact hyn.symm) (by rw [hPt, hPd]; omega) rfl
    rwa [← hPs] at this
   have e2 : doE ⟨y.a, y.b + x.t.size, y.t ++ oldE s x⟩ (P ++ x.t.data.toList ++ X) = P.take y.a.toNat ++ (y.t.data.toList ++ (oldE s x).data.toList) ++ X := by
    have := doE_mid ⟨y.a, y.b + x.t.size, y.t ++ oldE s x⟩ (P.take y.a.toNat) (y.t.data.toList ++ (oldE s x).data.toList) (P.drop y.a.toNat ++ x.t.data.toList) X (by rw [hPt]; exact hyn.symm) (by rw [hPt, List.length_append, hPd]; simp only; omega) (by simp [ByteArray.data_append, Array.toList_append])
    rw [← List.append_assoc (P.take y.a.toNat), ← hPs] at this
    exact this
   rw [ho, List.foldr_append]
   show B0.foldr doE (doE ⟨y.a, y.b + x.t.size, y.t ++ oldE s x⟩ (P ++ x.t.data.toList ++ X)) = _
   have ht2 : B0.foldr doE (doE y (P ++ ((oldE s x).data.toList ++ X))) = s.data.toList.take c ++ ((oldE s x).data.toList ++ X) := ht
   rw [e2]
   rw [e1] at ht2
   rw [show P.take y.a.toNat ++ (y.t.data.toList ++ (oldE s x).data.toList) ++ X = P.take y.a.toNat ++ y.t.data.toList ++ ((oldE s x).data.toList ++ X) by simp [List.append_assoc], ht2, ← List.append_assoc]
   rw [hadd]
  ·rw [ho]
   refine ⟨fun e he => ?_, List.pairwise_append.2 ⟨q1, List.pairwise_singleton _ _, fun e he f hf => ?_⟩⟩
   ·rcases List.mem_append.1 he with he | he
    ·exact hasc.1 e (List.mem_append.2 (.inl he))
    ·rw [List.mem_singleton.1 he]; show y.a ≤ y.b + x.t.size; omega
   ·rw [List.mem_singleton.1 hf]; exact q3 e he y (List.mem_singleton.2 rfl)
  ·rw [ho]
   intro e he
   rcases List.mem_append.1 he with he | he
   ·have := hmem e (List.mem_append.2 (.inl he))
    refine ⟨this.1, ?_⟩
    rw [List.length_append]
    omega
   ·rw [List.mem_singleton.1 he]
    refine ⟨hym.1, ?_⟩
    rw [List.length_append]
    simp only
    omega
  ·rw [ho]
   intro z hz
   rw [List.getLast?_append] at hz
   simp at hz
   rw [← hz, List.length_append]
   simp only
   omega
theorem bkIn_all {s : ByteArray} {l : List Ed} (h0 : ∀ e ∈ l, 0 ≤ e.a ∧ 0 ≤ e.b) (hO : Ord s.size 0 l) : ∀ k, k ≤ l.length → ∃ P c, BkIn s l (backT s (l.take k)) P c k ∧ Ord s.size c (l.drop k) := by
 intro k
 induction k with
 | zero =>
  intro _
  exact ⟨[], 0, ⟨by simp [backT], by omega, .inl ⟨rfl, rfl⟩, fun X => rfl, rfl, ⟨by simp [backT], List.Pairwise.nil⟩, by simp [backT], by simp [backT]⟩, hO⟩
 | succ k ih =>
  intro hk
  obtain ⟨P, c, h1, h2⟩ := ih (by omega)
  have hx : l[k]? = some (l[k]'(by omega)) := List.getElem?_eq_getElem _
  rw [backT_step s hx]
  obtain ⟨P', h3, h4⟩ := bkIn_step h1 hx (h0 _ (List.getElem_mem _)) h2
  exact ⟨P', _, h3, h4⟩
theorem back_all {s : ByteArray} {es : List Ed} (hm : rangedE s.size es = 0) :
  applyL (applyL s.data.toList es) (backE s es) = s.data.toList ∧ Asc (backE s es) ∧ ∀ e ∈ backE s es, 0 ≤ e.a ∧ e.b ≤ (applyL s.data.toList es).length := by
 have hO := ord_of (m := s.size) rfl hm
 have h0 : ∀ e ∈ sorted lessE es, 0 ≤ e.a ∧ 0 ≤ e.b := fun e he => by have := rangedE_mem hm e ((sorted_mem lessE es e).1 he); exact ⟨this.1, by omega⟩
 obtain ⟨P, c, h, h2⟩ := bkIn_all h0 hO _ (Nat.le_refl _)
 rw [List.take_of_length_le (Nat.le_refl _)] at h
 have htx := h.text
 rw [List.drop_of_length_le (Nat.le_refl _)] at htx
 have hap : applyL s.data.toList es = P ++ s.data.toList.drop c := by
  unfold applyL
  rw [do_all_is _ _ 0 hO, List.take_zero, List.nil_append, htx]
  rfl
 have hbe : backE s es = (backT s (sorted lessE es)).out := rfl
 refine ⟨?_, by rw [hbe]; exact h.asc, fun e he => ?_⟩
 ·rw [hap]
  unfold applyL
  rw [asc_sorted (by rw [hbe]; exact h.asc), hbe, h.turn, List.take_append_drop]
 ·rw [hbe] at he
  have := h.mem e he
  refine ⟨this.1, ?_⟩
  rw [hap, List.length_append]
  omega
theorem ord_drop {n : Nat} : ∀ {l : List Ed} {c i : Nat} {x : Ed}, Ord n c l → l[i]? = some x → A x ≤ Z x ∧ Ord n (Z x) (l.drop (i + 1)) ∧ c ≤ A x := by
 intro l
 induction l with
 | nil => intro c i x _ h; cases h
 | cons e r ih =>
  intro c i x h hx
  cases i with
  | zero => cases hx; exact ⟨h.2.1, h.2.2, h.1⟩
  | succ i =>
   have := ih h.2.2 (show r[i]? = some x from hx)
   have h1 := h.1
   have h2 := h.2.1
   exact ⟨this.1, this.2.1, by omega⟩
def cutTo (s : By) (l : List Ed) (i : Nat) : By := (l.drop i).foldr cutE s
theorem cutTo_all (s : By) (l : List Ed) {i : Nat} (h : l.length ≤ i) : cutTo s l i = s := by unfold cutTo; rw [List.drop_of_length_le h]; rfl
theorem cutTo_step (s : By) {l : List Ed} {i : Nat} {x : Ed} (hx : l[i]? = some x) : cutTo s l i = splice (cutTo s l (i + 1)) x.a x.b [] := by
 obtain ⟨hi, rfl⟩ := List.getElem?_eq_some_iff.1 hx
 unfold cutTo
 rw [List.drop_eq_getElem_cons hi]
 rfl
theorem cutTo_fit {s : By} {l : List Ed} {i : Nat} {x : Ed} (hO : Ord s.length 0 l) (hx : l[i]? = some x) : A x ≤ Z x ∧ Z x ≤ (cutTo s l (i + 1)).length := by
 obtain ⟨h1, h2, _⟩ := ord_drop hO hx
 refine ⟨h1, ?_⟩
 unfold cutTo
 rw [cut_all_is s _ (Z x) h2, List.length_append, List.length_take]
 have := h2.le
 omega
def putTo (s : By) (l : List Ed) (k : Nat) : By × Int := (l.take k).foldl putE (l.foldr cutE s, 0)
theorem putTo_step (s : By) {l : List Ed} {k : Nat} {x : Ed} (hx : l[k]? = some x) : putTo s l (k + 1) = putE (putTo s l k) x := by
 obtain ⟨hk, rfl⟩ := List.getElem?_eq_some_iff.1 hx
 unfold putTo
 rw [List.take_succ_eq_append_getElem hk, List.foldl_append]
 rfl
theorem putTo_zero (s : By) (l : List Ed) : putTo s l 0 = (cutTo s l 0, 0) := by unfold putTo cutTo; rw [List.drop_zero]; rfl
theorem putTo_all {s : By} {l : List Ed} (hO : Ord s.length 0 l) (h0 : ∀ e ∈ l, 0 ≤ e.a ∧ 0 ≤ e.b) {k : Nat} (hk : l.length ≤ k) : (putTo s l k).1 = l.foldr doE s := by
 unfold putTo
 rw [List.take_of_length_le hk]
 exact two_ways s hO h0
theorem putTo_in {s : By} {l : List Ed} (hO : Ord s.length 0 l) (h0 : ∀ e ∈ l, 0 ≤ e.a ∧ 0 ≤ e.b) : ∀ k, k ≤ l.length → ∃ (P : By) (c : Nat), (putTo s l k).1 = P ++ less s c (l.drop k) ∧ (P.length : Int) = c + (putTo s l k).2 ∧ Ord s.length c (l.drop k) := by
 intro k
 induction k with
 | zero => intro _; exact ⟨[], 0, by rw [putTo_zero]; unfold cutTo; rw [List.drop_zero, cut_all_is s l 0 hO]; rfl, by rw [putTo_zero]; rfl, hO⟩
 | succ k ih =>
  intro hk
  obtain ⟨P, c, h1, h2, h3⟩ := ih (by omega)
  have hkl : k < l.length := by omega
  rw [List.drop_eq_getElem_cons hkl] at h1 h3
  obtain ⟨p1, p2⟩ := h0 _ (List.getElem_mem hkl)
  have hst := putTo_step s (List.getElem?_eq_getElem hkl)
  generalize l[k] = e at *
  have hA : ((A e : Nat) : Int) = e.a := Int.toNat_of_nonneg p1
  have hZe : ((Z e : Nat) : Int) = e.b := Int.toNat_of_nonneg p2
  obtain ⟨o1, o2, o3⟩ := h3
  have hZ := o3.le
  have hlen : (((s.take (A e)).drop c).length : Int) = A e - c := by rw [List.length_drop, List.length_take]; omega
  refine ⟨P ++ (s.take (A e)).drop c ++ e.t.data.toList, Z e, ?_, ?_, o3⟩
  ·rw [hst]
   unfold putE
   rw [h1]
   show splice (P ++ ((s.take (A e)).drop c ++ less s (Z e) (l.drop (k + 1)))) _ _ _ = _
   unfold splice
   have hn : (e.a + (putTo s l k).2).toNat = (P ++ (s.take (A e)).drop c).length := by rw [List.length_append]; omega
   have e1 : P ++ ((s.take (A e)).drop c ++ less s (Z e) (l.drop (k + 1))) = (P ++ (s.take (A e)).drop c) ++ less s (Z e) (l.drop (k + 1)) := (List.append_assoc ..).symm
   rw [e1, hn, List.take_left, List.drop_left]
   exact (List.append_assoc ..).symm
  ·rw [hst]
   unfold putE
   simp only
   rw [List.length_append, List.length_append]
   have : e.t.data.toList.length = e.t.size := rfl
   unfold dE
   omega
theorem putTo_fit {s : By} {l : List Ed} (hO : Ord s.length 0 l) (h0 : ∀ e ∈ l, 0 ≤ e.a ∧ 0 ≤ e.b) {k : Nat} {e : Ed} (he : l[k]? = some e) : 0 ≤ e.a + (putTo s l k).2 ∧ e.a + (putTo s l k).2 ≤ (putTo s l k).1.length := by
 obtain ⟨hk, rfl⟩ := List.getElem?_eq_some_iff.1 he
 obtain ⟨P, c, h1, h2, h3⟩ := putTo_in hO h0 k (by omega)
 rw [List.drop_eq_getElem_cons hk] at h1 h3
 obtain ⟨p1, p2⟩ := h0 _ (List.getElem_mem hk)
 generalize l[k] = e at *
 have hA : ((A e : Nat) : Int) = e.a := Int.toNat_of_nonneg p1
 obtain ⟨o1, o2, o3⟩ := h3
 have hZ := o3.le
 rw [h1, List.length_append]
 show _ ∧ _ ≤ ((P.length + ((s.take (A e)).drop c ++ less s (Z e) (l.drop (k + 1))).length : Nat) : Int)
 rw [List.length_append, List.length_drop, List.length_take]
 omega
theorem putTo_len (s : By) (l : List Ed) : ∀ j k, k ≤ k + j → (putTo s l k).1.length ≤ (putTo s l (k + j)).1.length := by
 intro j
 induction j with
 | zero => intro k _; exact Nat.le_refl _
 | succ j ih =>
  intro k _
  refine Nat.le_trans (ih k (by omega)) ?_
  by_cases h : k + j < l.length
  ·rw [show k + (j + 1) = k + j + 1 from rfl, putTo_step s (List.getElem?_eq_getElem h)]
   unfold putE splice
   simp only
   rw [List.length_append, List.length_append, List.length_take, List.length_drop]
   omega
  ·unfold putTo
   rw [List.take_of_length_le (show l.length ≤ k + (j + 1) by omega), List.take_of_length_le (show l.length ≤ k + j by omega)]
   exact Nat.le_refl _
theorem putTo_most {s : By} {l : List Ed} (hO : Ord s.length 0 l) (h0 : ∀ e ∈ l, 0 ≤ e.a ∧ 0 ≤ e.b) {k : Nat} {e : Ed} (he : l[k]? = some e) (hg : grownE s.length l ≤ 65536) : (putTo s l k).1.length + e.t.size ≤ 65536 := by
 have hk := (List.getElem?_eq_some_iff.1 he).1
 have h1 := putTo_step s he
 have h2 := putTo_len s l (l.length - (k + 1)) (k + 1) (by omega)
 rw [show k + 1 + (l.length - (k + 1)) = l.length by omega, putTo_all hO h0 (Nat.le_refl _), do_all_is s l 0 hO, List.take_zero, List.nil_append] at h2
 have h3 := rest_len s l 0 hO h0
 have h4 : (putTo s l (k + 1)).1.length = (putTo s l k).1.length + e.t.size := by
  rw [h1]
  unfold putE splice
  simp only
  rw [List.length_append, List.length_append, List.length_take, List.length_drop]
  have : e.t.data.toList.length = e.t.size := rfl
  have h5 := putTo_fit hO h0 he
  omega
 omega
theorem rangedE_more {n m : Int} {es : List Ed} (h : rangedE n es = 0) (hm : n ≤ m) : rangedE m es = 0 := by
 have h1 := rangedE_mem h
 unfold rangedE at h ⊢
 split at h
 ·rename_i ha
  split at h
  ·rename_i hb
   rw [if_pos (List.all_eq_true.2 fun e he => by
    have := h1 e he
    unfold mayS edS
    exact decide_eq_true ⟨this.1, this.2.1, by omega⟩), if_pos hb]
  ·cases h
 ·cases h
theorem mayE_zero {n : Int} {es : List Ed} (h : mayE n es = 0) : rangedE n es = 0 ∧ grownE n es ≤ 65536 := by
 have hr : rangedE n es = 0 := by
  rcases rangedE_or n es with h1 | h1 | h1
  ·exact h1
  ·rw [mayE_bad (by rw [h1]; decide), h1] at h; cases h
  ·rw [mayE_bad (by rw [h1]; decide), h1] at h; cases h
 refine ⟨hr, ?_⟩
 rw [mayE_fit hr] at h
 split at h
 ·cases h
 ·omega
theorem grownE_insR (n : Int) (less : Ed → Ed → Bool) (out : List Ed) (x : Ed) : grownE n (insR less out x) = grownE n out + dE x := by
 unfold insR
 have hs : out.take (place less x out out.length) ++ out.drop (place less x out out.length) = out := List.take_append_drop _ _
 generalize place less x out out.length = k at *
 have hadd : ∀ (l : List Ed) (n d : Int), grownE (n + d) l = grownE n l + d := by
  intro l
  induction l with
  | nil => intro n d; rfl
  | cons x r ih => intro n d; show grownE (n + d + dE x) r = grownE (n + dE x) r + d; rw [← ih]; congr 1; omega
 have happ : ∀ (a b : List Ed), grownE n (a ++ b) = grownE (grownE n a) b := fun a b => by unfold grownE; rw [List.foldl_append]
 rw [happ]
 show grownE (grownE n (out.take k) + dE x) (out.drop k) = _
 rw [hadd, ← happ, hs]
theorem grownE_sorted (n : Int) (l : List Ed) : grownE n (sorted lessE l) = grownE n l := by
 have : ∀ k, k ≤ l.length → grownE n (sorted lessE (l.take k)) = grownE n (l.take k) := by
  intro k
  induction k with
  | zero => intro _; rfl
  | succ k ih =>
   intro hk
   have hk' : k < l.length := by omega
   rw [grownE_step n (List.getElem?_eq_getElem hk'), List.take_succ_eq_append_getElem hk', sorted_snoc, grownE_insR, ih (by omega)]
 have h := this l.length (Nat.le_refl _)
 rwa [List.take_of_length_le (Nat.le_refl _)] at h
end Go.Gim

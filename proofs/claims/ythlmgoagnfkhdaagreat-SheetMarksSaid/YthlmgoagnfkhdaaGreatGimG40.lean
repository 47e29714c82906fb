/- The document's Back of edits. Conditions: a text of at most 65536 bytes, at most 1000 edits of at most 100000 bytes each. -/
import Derived.Test.YthlmgoagnfkhdaaGreatGimG39
import Derived.Test.YthlmgoagnfkhdaaGreatGimG03
import Derived.Test.YthlmgoagnfkhdaaGreatGimG08
import Derived.Test.YthlmgoagnfkhdaaGreatGimG36
import Derived.Test.YthlmgoagnfkhdaaGreatGimG07
import Derived.Lib.SmallJoins
set_option maxHeartbeats 6400000
set_option maxRecDepth 1000000
set_option linter.unusedVariables false
set_option linter.unusedSimpArgs false
namespace Go.Proofs.YthlmgoagnfkhdaaGreat
open Go.RowKit Go.Gim
theorem box_edit : Box Tryz.prog 59 #[.int .i64 0, .int .i64 0, .string ⟨#[]⟩] := by
 constructor
 ·intro ρ o w h
  simp [execOp, h, go_sem]
  try rfl
 ·intro ρ o w d s p y x h hd hs hx hc hy hb
  obtain ⟨x0, x1, x2, rfl⟩ := Go.Joins.array3 hx
  obtain ⟨y0, y1, y2, rfl⟩ := Go.Joins.array3 hy
  have o0 := hc x0 (by simp)
  have o1 := hc x1 (by simp)
  have o2 := hc x2 (by simp)
  have c0 : w.cell? ⟨p, 0, none⟩ = some y0 := hb.cell 0
  have c1 : w.cell? ⟨p, 1, none⟩ = some y1 := hb.cell 1
  have c2 : w.cell? ⟨p, 2, none⟩ = some y2 := hb.cell 2
  have f0 := hb.free 0
  have f1 := hb.free 1
  have f2 := hb.free 2
  refine ⟨((w.setCell ⟨p, 0, none⟩ x0).setCell ⟨p, 1, none⟩ x1).setCell ⟨p, 2, none⟩ x2, ?_, ((hb.set 0 x0).set 1 x1).set 2 x2, (((Mod.refl (· = p) w).setCell (p := ⟨p, 0, none⟩) (fun _ => rfl) _).setCell (p := ⟨p, 1, none⟩) (fun _ => rfl) _).setCell (p := ⟨p, 2, none⟩) (fun _ => rfl) _⟩
  simp [execOp, h, hd, hs, go_sem, run_store _ _ _ _ _ o0, run_store _ _ _ _ _ o1, run_store _ _ _ _ _ o2, c0, c1, c2, f0, f1, f2]
theorem rfBack_yes (s : ByteArray) (ao : Option Addr) (cap : Nat) (l : List Ed) (w : World) (hs : s.size ≤ 65536) (hr : Reads w 3 ao l.length (edE.cells l)) (hn : l.length ≤ 1000) (ht : ∀ e ∈ l, e.t.size ≤ 100000) (hm : mayE s.size l = 0) :
  Calls Tryz.prog 89 #[.string s, .slice ao l.length cap] w (BackPost s l w) := by
 have hl1 : maxLen = 9223372036854775807 := rfl
 have HM := Lib.hid (rfMayE_any s.size ao cap l w hr hn (by omega) (by omega) ht)
 rw [hm] at HM
 obtain ⟨hrz, _⟩ := mayE_zero hm
 have hok : ∀ e ∈ sorted lessE l, EdOk e := fun e he => by
  have he := (sorted_mem lessE l e).1 he
  obtain ⟨h1, h2, h3⟩ := rangedE_mem hrz e he
  exact ⟨h1, h2, by omega, ht e he⟩
 have hin : ∀ e ∈ sorted lessE l, e.b ≤ s.size := fun e he => (rangedE_mem hrz e ((sorted_mem lessE l e).1 he)).2.2
 have HSo := Lib.hid (fun w' (h : Ext w w') => refSortEd_any ao cap l w' (hr.mod h (fun _ _ f => f)) hn)
 have hSl := sorted_length lessE l
 have Hbd := Lib.hid (backT_bd (s := s) hok)
 have Hok := Lib.hid hok
 have Hin := Lib.hid hin
 have Hfin := Lib.hid (show backE s l = (backT s (sorted lessE l)).out from rfl)
 unfold BackPost
 generalize sorted lessE l = S at *
 generalize backE s l = E at *
 obtain ⟨N, hN⟩ : ∃ N, N = l.length := ⟨_, rfl⟩
 rw [← hN] at hn hSl HSo HM ⊢
 have HSl := Lib.hid hSl
 clear hr hN ht hm hrz hok hin hSl
 go_enter Tryz.func89, Tryz.ntmps89
 go_wp2_with fail
 refine HM.out.mono ?_
 rintro e w1 ⟨rfl, hx1⟩
 have HSo2 := Lib.hid (HSo.out w1 hx1)
 clear HM HSo
 go_wp2_with fail
 refine HSo2.out.mono ?_
 rintro e w2 ⟨v, rfl, hov, -, hx2⟩
 obtain ⟨a1, c1, rfl, hrd⟩ := Enc.owns_reads (E := edE) hov
 have Hrd := Lib.hid hrd
 have hx0 := hx1.ext_trans hx2
 have hz2 := hx0.size
 clear HSo2 hrd hov hx1 hx2
 go_wp2_with fail
 go_loopw [8, 9, 10, 11] (fun v g en i wr => ∃ k : Nat, k ≤ N ∧ i = .int .i64 k ∧ g = .int .i64 (backT s (S.take k)).g ∧ en = .int .i64 (backT s (S.take k)).e ∧ Hid (wr.ownsRow w2.heap.size 59 3 v (backT s (S.take k)).out.length (edE.cells (backT s (S.take k)).out)) ∧ Ext w2 wr) (fun _ _ _ i _ => N - (intOf i).toNat)
 case atStart => exact ⟨0, by omega, rfl, rfl, rfl, Lib.hid (World.ownsRow_nil _ _ _ _), Mod.refl _ _⟩
 case round =>
  obtain ⟨k, hk, rfl, rfl, rfl, HO, hy⟩ := hrel
  by_cases hlt : k < N
  ·have hlt' : (k : Int) < (N : Int) := by omega
   have hk0 : (0 : Int) ≤ (k : Int) := by omega
   obtain ⟨b, off, rfl⟩ := Hrd.out.some (by omega)
   have hlk : k < S.length := by rw [HSl.out]; exact hlt
   have Hcc := Lib.hid (fun w' (h' : Ext w2 w') => rdEd_at (Hrd.out.mod h' (fun _ _ f => f)) (List.getElem?_eq_getElem hlk))
   obtain ⟨c0, c1', c2⟩ := Hcc.out wr hy
   have Hst := Lib.hid (backT_step s (List.getElem?_eq_getElem hlk))
   have Hlst := Lib.hid (show ∀ y, (backT s (S.take k)).out.getLast? = some y → y.b = (backT s (S.take k)).e + (backT s (S.take k)).g from backT_last s (S.take k) ⟨[], 0, -1⟩ (by intro y h; cases h))
   have hbd := Hbd.out k (by omega)
   have HO1 := Lib.hid (oldE_le s (Hok.out _ (List.getElem_mem hlk)))
   obtain ⟨x1, x2, x3, x4⟩ := Hok.out _ (List.getElem_mem hlk)
   have x5 := Hin.out _ (List.getElem_mem hlk)
   generalize S[k] = x at *
   generalize backT s (S.take k) = st at *
   obtain ⟨out, g, en⟩ := st
   obtain ⟨d1, d2, d3, d4⟩ := hbd
   simp only at d1 d2 d3 d4 HO Hlst
   have HB4 := Lib.hid d4
   obtain ⟨va, vc, hva, _, _⟩ := ownsRow_shape HO.out
   subst hva
   have Hlow := Lib.hid (fun i hi => (HO.out.lt i hi).2)
   have hbl := World.block_lt_of_cell? wr _ c0
   have s1 : IntKind.i64.wrap (x.a + g) = x.a + g := IntWalk.i64_in _ (by omega)
   have s2 : IntKind.i64.wrap (x.a + g + (x.t.size : Int)) = x.a + g + (x.t.size : Int) := IntWalk.i64_in _ (by omega)
   have s3 : IntKind.i64.wrap (g + (x.t.size : Int)) = g + (x.t.size : Int) := IntWalk.i64_in _ (by omega)
   have s4 : IntKind.i64.wrap (x.b - x.a) = x.b - x.a := IntWalk.i64_in _ (by omega)
   have s5 : IntKind.i64.wrap (g + (x.t.size : Int) - (x.b - x.a)) = g + (x.t.size : Int) - (x.b - x.a) := IntWalk.i64_in _ (by omega)
   clear hlk d4
   go_upto_region 10 with fail
   have HS := Lib.hid (fun w' (h' : Ext wr w') => (⟨(Hcc.out w' (hy.ext_trans h')).1, (Hcc.out w' (hy.ext_trans h')).2.1, (Hcc.out w' (hy.ext_trans h')).2.2, trivial⟩ : w'.cell? ⟨b, off + k * 3, none⟩ = some (.int .i64 x.a) ∧ w'.cell? ⟨b, off + k * 3 + 1, none⟩ = some (.int .i64 x.b) ∧ w'.cell? ⟨b, off + k * 3 + 2, none⟩ = some (.string x.t) ∧ True))
   clear c0 c1' c2
   refine wp_region_E (by kernel_rfl) ?_
   refine wpE_t 0 29 (v := ?_) (fun w' hw' => qat_value ?_) ?_
   rotate_left
   ·go_simp
    rfl
   simp only [fr1, fr2, fr3, fr4]
   refine wpE_t 1 30 (v := ?_) (fun w' hw' => qat_value ?_) ?_
   rotate_left
   ·go_simp
    rfl
   simp only [fr1, fr2, fr3, fr4]
   refine wpE_t 2 31 (v := ?_) (fun w' hw' => qat_value ?_) ?_
   rotate_left
   ·go_simp
    rfl
   simp only [fr1, fr2, fr3, fr4]
   refine wpE_t 3 32 (v := ?_) (fun w' hw' => qat_value ?_) ?_
   rotate_left
   ·go_simp
    rfl
   simp only [fr1, fr2, fr3, fr4]
   refine wpE_t 4 33 (v := ?_) (fun w' hw' => qat_value ?_) ?_
   rotate_left
   ·go_simp
    rfl
   simp only [fr1, fr2, fr3, fr4]
   refine wpE_t 5 34 (v := ?_) (fun w' hw' => ?_) ?_
   rotate_left
   ·obtain ⟨r0, r1, r2, r3⟩ := HS.out w' hw'
    refine qat_value ?_
    go_simp
    rfl
   simp only [fr1, fr2, fr3, fr4]
   refine wpE_t 6 35 (v := ?_) (fun w' hw' => qat_value ?_) ?_
   rotate_left
   ·go_simp
    rfl
   simp only [fr1, fr2, fr3, fr4]
   refine wpE_t 7 36 (v := ?_) (fun w' hw' => qat_value ?_) ?_
   rotate_left
   ·go_simp
    rfl
   simp only [fr1, fr2, fr3, fr4]
   refine wpE_t 8 37 (v := ?_) (fun w' hw' => qat_value ?_) ?_
   rotate_left
   ·go_simp
    rfl
   simp only [fr1, fr2, fr3, fr4]
   refine wpE_t 9 38 (v := ?_) (fun w' hw' => qat_value ?_) ?_
   rotate_left
   ·go_simp
    rfl
   simp only [fr1, fr2, fr3, fr4]
   refine wpE_t 10 39 (v := ?_) (fun w' hw' => qat_value ?_) ?_
   rotate_left
   ·go_simp
    rfl
   simp only [fr1, fr2, fr3, fr4]
   refine wpE_t 11 40 (v := ?_) (fun w' hw' => qat_value ?_) ?_
   rotate_left
   ·go_simp
    rfl
   simp only [fr1, fr2, fr3, fr4]
   refine wpE_t 12 41 (v := ?_) (fun w' hw' => qat_value ?_) ?_
   rotate_left
   ·go_simp
    rfl
   simp only [fr1, fr2, fr3, fr4]
   refine wpE_t 13 42 (v := ?_) (fun w' hw' => ?_) ?_
   rotate_left
   ·obtain ⟨r0, r1, r2, r3⟩ := HS.out w' hw'
    refine qat_value ?_
    go_simp
    rfl
   simp only [fr1, fr2, fr3, fr4]
   refine wpE_t 14 43 (v := ?_) (fun w' hw' => qat_value ?_) ?_
   rotate_left
   ·go_simp
    rfl
   simp only [fr1, fr2, fr3, fr4]
   refine wpE_t 15 44 (v := ?_) (fun w' hw' => qat_value ?_) ?_
   rotate_left
   ·go_simp
    rfl
   simp only [fr1, fr2, fr3, fr4]
   refine wpE_t 16 45 (v := ?_) (fun w' hw' => qat_value ?_) ?_
   rotate_left
   ·go_simp
    rfl
   simp only [fr1, fr2, fr3, fr4]
   refine wpE_t 17 46 (v := ?_) (fun w' hw' => qat_value ?_) ?_
   rotate_left
   ·go_simp
    rfl
   simp only [fr1, fr2, fr3, fr4]
   refine wpE_t 18 47 (v := ?_) (fun w' hw' => qat_value ?_) ?_
   rotate_left
   ·go_simp
    rfl
   simp only [fr1, fr2, fr3, fr4]
   refine wpE_t 19 48 (v := ?_) (fun w' hw' => qat_value ?_) ?_
   rotate_left
   ·go_simp
    rfl
   simp only [fr1, fr2, fr3, fr4]
   refine wpE_t 20 49 (v := ?_) (fun w' hw' => ?_) ?_
   rotate_left
   ·obtain ⟨r0, r1, r2, r3⟩ := HS.out w' hw'
    refine qat_value ?_
    go_simp
    rfl
   simp only [fr1, fr2, fr3, fr4]
   refine wpE_t 21 50 (v := ?_) (fun w' hw' => qat_value ?_) ?_
   rotate_left
   ·go_simp
    rfl
   simp only [fr1, fr2, fr3, fr4]
   refine wpE_t 22 51 (v := ?_) (fun w' hw' => qat_value ?_) ?_
   rotate_left
   ·go_simp
    rfl
   simp only [fr1, fr2, fr3, fr4]
   refine wpE_t 23 52 (v := ?_) (fun w' hw' => qat_value ?_) ?_
   rotate_left
   ·go_simp
    rfl
   simp only [fr1, fr2, fr3, fr4]
   refine wpE_t 24 53 (v := ?_) (fun w' hw' => qat_value ?_) ?_
   rotate_left
   ·go_simp
    rfl
   simp only [fr1, fr2, fr3, fr4]
   refine wpE_t 25 54 (v := ?_) (fun w' hw' => qat_value ?_) ?_
   rotate_left
   ·go_simp
    rfl
   simp only [fr1, fr2, fr3, fr4]
   refine wpE_t 26 55 (v := ?_) (fun w' hw' => qat_value ?_) ?_
   rotate_left
   ·go_simp
    rfl
   simp only [fr1, fr2, fr3, fr4]
   refine wpE_t 27 56 (v := ?_) (fun w' hw' => qat_value ?_) ?_
   rotate_left
   ·go_simp
    rfl
   simp only [fr1, fr2, fr3, fr4]
   refine wpE_t 28 57 (v := ?_) (fun w' hw' => qat_value ?_) ?_
   rotate_left
   ·go_simp
    rfl
   simp only [fr1, fr2, fr3, fr4]
   refine wpE_t 29 58 (v := ?_) (fun w' hw' => qat_value ?_) ?_
   rotate_left
   ·go_simp
    rfl
   simp only [fr1, fr2, fr3, fr4]
   refine wpE_t 30 59 (v := ?_) (fun w' hw' => ?_) ?_
   rotate_left
   ·obtain ⟨r0, r1, r2, r3⟩ := HS.out w' hw'
    refine qat_value ?_
    go_simp
    rfl
   simp only [fr1, fr2, fr3, fr4]
   refine wpE_t 31 60 (v := ?_) (fun w' hw' => qat_value ?_) ?_
   rotate_left
   ·go_simp
    rfl
   simp only [fr1, fr2, fr3, fr4]
   refine wpE_t 32 61 (v := ?_) (fun w' hw' => qat_value ?_) ?_
   rotate_left
   ·go_simp
    rfl
   simp only [fr1, fr2, fr3, fr4]
   refine wpE_t 33 62 (v := ?_) (fun w' hw' => qat_value ?_) ?_
   rotate_left
   ·go_simp
    rfl
   simp only [fr1, fr2, fr3, fr4]
   refine wpE_t 34 63 (v := ?_) (fun w' hw' => qat_value ?_) ?_
   rotate_left
   ·go_simp
    rfl
   simp only [fr1, fr2, fr3, fr4]
   refine wpE_t 35 64 (v := ?_) (fun w' hw' => qat_value ?_) ?_
   rotate_left
   ·go_simp
    rfl
   simp only [fr1, fr2, fr3, fr4]
   refine wpE_t 36 65 (v := ?_) (fun w' hw' => ?_) ?_
   rotate_left
   ·obtain ⟨r0, r1, r2, r3⟩ := HS.out w' hw'
    refine qat_value ?_
    go_simp
    rfl
   simp only [fr1, fr2, fr3, fr4]
   refine wpE_t 37 66 (v := ?_) (fun w' hw' => qat_value ?_) ?_
   rotate_left
   ·go_simp
    rfl
   simp only [fr1, fr2, fr3, fr4]
   refine wpE_t 38 67 (v := ?_) (fun w' hw' => qat_value ?_) ?_
   rotate_left
   ·go_simp
    rfl
   simp only [fr1, fr2, fr3, fr4]
   refine wpE_box (x := #[.int .i64 (x.a + g), .int .i64 (x.a + g + x.t.size), .string (s.extract x.a.toNat x.b.toNat)]) box_edit 39 40 12 67 rfl rfl ⟨rfl, rfl⟩ ⟨rfl, rfl⟩ ⟨rfl, rfl⟩ (by kernel_rfl) (by kernel_rfl) (by kernel_rfl) ⟨by simp, by decide⟩ rfl rfl (by intro u hu; simp at hu; rcases hu with rfl | rfl | rfl <;> rfl) (ext_draw _) ?_
   intro u bx hxu hlb hbu
   simp only [fr1, fr2, fr3, fr4]
   have hyu := hy.ext_trans hxu
   clear HS hbl s1 s2
   obtain ⟨c0, c1', c2⟩ := Hcc.out u hyu
   have hbl := World.block_lt_of_cell? u _ c0
   go_wp2_with fail
   go_quiet (fail)
   obtain ⟨we, hwe⟩ : ∃ we, we = u.drewN nq := ⟨_, rfl⟩
   have hxe : Ext u we := by rw [hwe]; exact (Mod.refl _ u).drewN _
   rw [← hwe]
   have hyB := hyu.ext_trans hxe
   have hbe := hbu.mod hxe (fun f => f)
   have hxw := hxu.ext_trans hxe
   have HOe := Lib.hid (ownsRow_mod HO.out hxw (fun _ _ f => f))
   clear c0 c1' c2 hbl hwe s3 s4 s5 hbu hyu hxe hxu hxw HO hy
   have hgd : g + (x.t.size : Int) - (x.b - x.a) = g + dE x := by unfold dE; omega
   rw [hgd]
   clear hgd
   obtain ⟨c0, c1', c2⟩ := Hcc.out we hyB
   have hbl := World.block_lt_of_cell? we _ c0
   have q0 : we.cell? ⟨bx, 0, none⟩ = some (.int .i64 (x.a + g)) := hbe.cell 0
   have q1 : we.cell? ⟨bx, 1, none⟩ = some (.int .i64 (x.a + g + x.t.size)) := hbe.cell 1
   have q2 : we.cell? ⟨bx, 2, none⟩ = some (.string (s.extract x.a.toNat x.b.toNat)) := hbe.cell 2
   have hlu := hbe.lt
   rcases Nat.eq_zero_or_pos out.length with hz | hz
   ·have HZ := Lib.hid (backOut_new (s := s) (st := ⟨out, g, en⟩) (x := x) (.inl (List.eq_nil_of_length_eq_zero hz)))
    have hj0 : ¬ (0 : Int) < (out.length : Int) := by omega
    clear hz
    have HStep := Lib.hid (show backT s (S.take (k + 1)) = ⟨out ++ [newE s g x], g + dE x, x.b⟩ by rw [Hst.out]; unfold backStep; rw [HZ.out])
    go_wp2_with (at_builtin; refine wpList_append_reads rfl _ _ 35 rfl w2.heap.size 59 _ 3 32 Tryz.info59 Tryz.underlying35 rfl (by decide) _ out.length _ rfl (HOe.out.alloc _) _ 1 1 [.int .i64 (x.a + g), .int .i64 (x.a + g + x.t.size), .string (oldE s x)] rfl ?hrd (edE.one (newE s g x)) (by omega) (by omega) ?hbs ?_)
    case hrd =>
     have := Reads.new we 59 #[.int .i64 (x.a + g), .int .i64 (x.a + g + x.t.size), .string (oldE s x)] 3 1 rfl
     simpa [oldE] using this
    case hbs => have := hyB.size; simp; omega
    intro v' w4 hown hm4 hbk
    have hal : Ext we (we.alloc (.cells #[.int .i64 (x.a + g), .int .i64 (x.a + g + x.t.size), .string (oldE s x)] 59)) := (Mod.refl _ we).alloc _
    have hy4 := (hyB.ext_trans hal).over hm4 (fun i hi => (HOe.out.lt i hi).1)
    have Hown := Lib.hid hown
    clear hm4 hbk hown c0 c1' c2 hbl hal q0 q1 q2 hlu
    obtain ⟨c0, c1', c2⟩ := Hcc.out w4 hy4
    have hbl := World.block_lt_of_cell? w4 _ c0
    go_wp2_with fail
    go_roundw
    case rel => exact ⟨k + 1, by omega, by go_num, by rw [HStep.out], by rw [HStep.out], Lib.hid (by rw [HStep.out, edE.cells_append, List.length_append, List.length_singleton]; exact Hown.out), hy4⟩
    case measure => simp [intOf]; omega
   ·obtain ⟨j, hj⟩ : ∃ j, out.length = j + 1 := ⟨out.length - 1, by omega⟩
    have hz1 : IntKind.i64.wrap ((out.length : Int) - 1) = (j : Int) := by rw [show (out.length : Int) - 1 = j from by omega]; exact IntWalk.i64_in _ (by omega)
    have hz2' : (out.length : Int) - 1 = (j : Int) := by omega
    have hjm : (j : Int) < (out.length : Int) := by omega
    have hj0 : (0 : Int) ≤ (j : Int) := by omega
    have hjp : (0 : Int) < (out.length : Int) := by omega
    have HJ := Lib.hid hj
    clear hj hz
    by_cases he : en = x.a
    ·have he1 : (en == x.a) = true := by simpa using he
     obtain ⟨g0, gc, hg0⟩ := Enc.owns_some (E := edE) HOe.out (by rw [HJ.out]; omega)
     injection hg0 with e1 e2 e3
     subst e1
     subst e3
     clear e2
     have hjo : j < out.length := by omega
     obtain ⟨y, hjl⟩ : ∃ y, out[j]? = some y := ⟨_, List.getElem?_eq_getElem hjo⟩
     have hla : out.getLast? = some y := by rw [List.getLast?_eq_getElem?, show out.length - 1 = j from by have := HJ.out; omega]; exact hjl
     have Hyb := Lib.hid (show y.b + (x.t.size : Int) = x.a + g + x.t.size by have := Hlst.out y hla; omega)
     obtain ⟨b1, b2, b3⟩ := HB4.out _ (List.mem_of_getElem? hjl)
     clear hjo
     have HZ := Lib.hid (backOut_add (s := s) (st := ⟨out, g, en⟩) (x := x) (y := y) hla he.symm)
     have Hjl := Lib.hid hjl
     have ho2 := HO1.out
     have y0 := Enc.owns_cell (E := edE) HOe.out hjl (j := 0) rfl
     have y1 := Enc.owns_cell (E := edE) HOe.out hjl (j := 1) rfl
     have y2 := Enc.owns_cell (E := edE) HOe.out hjl (j := 2) rfl
     rw [show edE.k = 3 from rfl] at y0 y1 y2
     rw [Nat.add_zero] at y0
     have f1 := Enc.owns_free (E := edE) HOe.out (j * 3 + 1)
     have f2 := Enc.owns_free (E := edE) HOe.out (j * 3 + 2)
     have hgl := (Enc.owns_block (E := edE) HOe.out).2
     have hgb := (Enc.owns_block (E := edE) HOe.out).1
     have hne : g0 ≠ bx := fun e => by have h1 : g0 < wr.heap.size := Hlow.out _ rfl; omega
     have hne2 : ¬ bx = g0 := fun e => hne e.symm
     have hbg : b ≠ g0 := fun e => by
      have h1 := World.block_lt_of_cell? w2 _ (Hcc.out w2 (Mod.refl _ _)).1
      simp only at h1
      omega
     have ho3 : ((s.extract x.a.toNat x.b.toNat).size : Int) ≤ 65536 := ho2
     have hcat : ¬ (9223372036854775807 : Int) < (y.t.size : Int) + ((s.extract x.a.toNat x.b.toNat).size : Int) := by omega
     have hs1 := Enc.owns_set (E := edE) HOe.out Hjl.out (j := 1) (by decide) (v := .int .i64 (x.a + g + x.t.size)) ⟨y.a, x.a + g + x.t.size, y.t⟩ rfl
     clear hjl hla he
     go_upto_region 15 with fail
     obtain ⟨u2, hu2⟩ : ∃ u2, u2 = we.setCell ⟨g0, j * 3 + 1, none⟩ (.int .i64 (x.a + g + x.t.size)) := ⟨_, rfl⟩
     rw [← hu2]
     have HO2 := Lib.hid (show u2.ownsRow w2.heap.size 59 3 (.slice (some ⟨g0, 0, none⟩) out.length vc) out.length (edE.cells (out.set j ⟨y.a, x.a + g + x.t.size, y.t⟩)) by rw [hu2]; exact hs1)
     have hyC : Ext w2 u2 := by rw [hu2]; exact hyB.setCell (p := ⟨g0, j * 3 + 1, none⟩) (fun h => absurd h (Nat.not_lt.2 hgb)) _
     have hm2 : Mod (· = g0) we u2 := by rw [hu2]; exact (Mod.refl (· = g0) we).setCell (p := ⟨g0, j * 3 + 1, none⟩) (fun _ => rfl) _
     have hbC := hbe.mod hm2 hne2
     clear c0 c1' c2 hbl q0 q1 q2 hlu y0 y1 y2 f1 f2 hgl hu2 hm2 hs1 hyB hbe HOe
     have hjs : (out.set j ⟨y.a, x.a + g + x.t.size, y.t⟩)[j]? = some ⟨y.a, x.a + g + x.t.size, y.t⟩ := List.getElem?_set_self (List.getElem?_eq_some_iff.1 Hjl.out).1
     have y2 := Enc.owns_cell (E := edE) HO2.out hjs (j := 2) rfl
     rw [show edE.k = 3 from rfl] at y2
     have q2 : u2.cell? ⟨bx, 2, none⟩ = some (.string (s.extract x.a.toNat x.b.toNat)) := hbC.cell 2
     have hlu := hbC.lt
     have hgl := (Enc.owns_block (E := edE) HO2.out).2
     have Hjs := Lib.hid hjs
     clear hjs
     refine wp_region_ext_tail 14 (by kernel_rfl) (by kernel_rfl) ?_
     simp only [List.take_succ_cons, List.take_zero, List.drop_succ_cons, List.drop_zero]
     repeat (go_big_quiet_step (fail))
     refine wpQuiet_nil ?_
     intro wf hxf
     have HOf := Lib.hid (ownsRow_mod HO2.out hxf (fun _ _ f => f))
     have hyF := hyC.ext_trans hxf
     clear y2 q2 hlu hgl HO2 hbC hyC hxf
     have f2 := Enc.owns_free (E := edE) HOf.out (j * 3 + 2)
     have hgl := (Enc.owns_block (E := edE) HOf.out).2
     have hs2 := Enc.owns_set2 (E := edE) HOf.out (List.getElem?_eq_some_iff.1 Hjl.out).1 (j := 2) (by decide) (v := .string (y.t ++ oldE s x)) (y := ⟨y.a, x.a + g + x.t.size, y.t ++ oldE s x⟩) rfl
     have HStep := Lib.hid (show backT s (S.take (k + 1)) = ⟨out.set (out.length - 1) ⟨y.a, x.a + g + x.t.size, y.t ++ oldE s x⟩, g + dE x, x.b⟩ by rw [Hst.out]; unfold backStep; rw [HZ.out, Hyb.out])
     have y2 := Enc.owns_cell (E := edE) HOf.out Hjs.out (j := 2) rfl
     rw [show edE.k = 3 from rfl] at y2
     go_upto_region 17 with fail
     obtain ⟨u3, hu3⟩ : ∃ u3, u3 = wf.setCell ⟨g0, j * 3 + 2, none⟩ (.string (y.t ++ s.extract x.a.toNat x.b.toNat)) := ⟨_, rfl⟩
     rw [← hu3]
     have HO3 := Lib.hid (show u3.ownsRow w2.heap.size 59 3 (.slice (some ⟨g0, 0, none⟩) out.length vc) out.length (edE.cells (out.set j ⟨y.a, x.a + g + x.t.size, y.t ++ oldE s x⟩)) by rw [hu3]; exact hs2)
     have hyG : Ext w2 u3 := by rw [hu3]; exact hyF.setCell (p := ⟨g0, j * 3 + 2, none⟩) (fun h => absurd h (Nat.not_lt.2 hgb)) _
     clear hs2 hu3 f2 hgl y2 HOf hyF
     obtain ⟨c0, c1', c2⟩ := Hcc.out u3 hyG
     have hbl := World.block_lt_of_cell? u3 _ c0
     go_wp2_with fail
     go_roundw
     case rel =>
      refine ⟨k + 1, by omega, by go_num, by rw [HStep.out], by rw [HStep.out], Lib.hid ?_, hyG⟩
      rw [HStep.out]
      simp only
      rw [List.length_set, show out.length - 1 = j from by have := HJ.out; omega]
      exact HO3.out
     case measure => simp [intOf]; omega
    ·have he1 : (en == x.a) = false := by simpa using he
     have HZ := Lib.hid (backOut_new (s := s) (st := ⟨out, g, en⟩) (x := x) (.inr (fun e => he e.symm)))
     have HStep := Lib.hid (show backT s (S.take (k + 1)) = ⟨out ++ [newE s g x], g + dE x, x.b⟩ by rw [Hst.out]; unfold backStep; rw [HZ.out])
     go_wp2_with (at_builtin; refine wpList_append_reads rfl _ _ 35 rfl w2.heap.size 59 _ 3 32 Tryz.info59 Tryz.underlying35 rfl (by decide) _ out.length _ rfl (HOe.out.alloc _) _ 1 1 [.int .i64 (x.a + g), .int .i64 (x.a + g + x.t.size), .string (oldE s x)] rfl ?hrd (edE.one (newE s g x)) (by omega) (by omega) ?hbs ?_)
     case hrd =>
      have := Reads.new we 59 #[.int .i64 (x.a + g), .int .i64 (x.a + g + x.t.size), .string (oldE s x)] 3 1 rfl
      simpa [oldE] using this
     case hbs => have := hyB.size; simp; omega
     intro v' w4 hown hm4 hbk
     have hal : Ext we (we.alloc (.cells #[.int .i64 (x.a + g), .int .i64 (x.a + g + x.t.size), .string (oldE s x)] 59)) := (Mod.refl _ we).alloc _
     have hy4 := (hyB.ext_trans hal).over hm4 (fun i hi => (HOe.out.lt i hi).1)
     have Hown := Lib.hid hown
     clear hm4 hbk hown c0 c1' c2 hbl hal q0 q1 q2 hlu
     obtain ⟨c0, c1', c2⟩ := Hcc.out w4 hy4
     have hbl := World.block_lt_of_cell? w4 _ c0
     go_wp2_with fail
     go_roundw
     case rel => exact ⟨k + 1, by omega, by go_num, by rw [HStep.out], by rw [HStep.out], Lib.hid (by rw [HStep.out, edE.cells_append, List.length_append, List.length_singleton]; exact Hown.out), hy4⟩
     case measure => simp [intOf]; omega
  ·have hlt' : ¬ (k : Int) < (N : Int) := by omega
   obtain rfl : k = N := by omega
   have hO := HO.out
   rw [List.take_of_length_le (by rw [HSl.out]; exact Nat.le_refl _), ← Hfin.out] at hO
   obtain ⟨va, vc, hva, _, _⟩ := ownsRow_shape hO
   subst hva
   have HO2 := Lib.hid hO
   clear hO HO
   go_wp2_with fail
   go_ret2
   exact ⟨va, vc, rfl, ownsRow_base HO2.out hz2, hx0.ext_trans hy⟩
end Go.Proofs.YthlmgoagnfkhdaaGreat
namespace Go.Gim
theorem inE_cells (l : List Int) : inE.cells l = l.map (Value.int .i64) := by
 induction l with
 | nil => rfl
 | cons x t ih => rw [inE.cells_cons, ih]; rfl
end Go.Gim
namespace Go.Proofs.YthlmgoagnfkhdaaGreat
open Go.RowKit Go.Gim
theorem intsSame (l : List Int) (a b : Option Addr) (c d : Nat) (w : World) (ha : Reads w 1 a l.length (inE.cells l)) (hb : Reads w 1 b l.length (inE.cells l)) (hn : l.length ≤ 1000) :
  Calls Tryz.prog 42 #[.slice a l.length c, .slice b l.length d] w fun e w' => e = .returned (.bool true) ∧ Ext w w' := by
 rw [inE_cells] at ha hb
 refine (ints_any w a b c d l l ha hb (by omega) (by omega)).mono ?_
 rintro e w' ⟨rfl, m, rfl⟩
 exact ⟨by rw [decide_eq_true rfl], (Mod.refl _ w).drewN m⟩
end Go.Proofs.YthlmgoagnfkhdaaGreat

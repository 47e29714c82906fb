/- What package sels does with one selection: Span, Norm; what sorting one element does. Conditions: it rises. -/
import Derived.Test.YtmecdhbiinpepaaGimStepT
import Derived.Lib.SliceRun
namespace Go.Proofs.Ytmecdhbiinpepaa
open Go.RowKit Go.Gim

set_option maxHeartbeats 800000 in
set_option maxRecDepth 1000000 in
theorem span_rise (p q : Int) (w : World) (h : p < q) : Calls Try.prog 47 #[.agg #[.int .i64 p, .int .i64 q]] w fun e w' => e = .returned (.agg #[.int .i64 p, .int .i64 q]) ∧ Ext w w' := by
  have h1 : ¬ q < p := by omega
  have h4 : ¬ q ≤ p := by omega
  have h5 : p ≤ q := by omega
  have h2 : min p q = p := by omega
  have h3 : max p q = q := by omega
  go_enter Try.func47, Try.ntmps47
  go_wp2_with fail
  go_returns
  exact ⟨rfl, ((Mod.refl _ w).alloc _).alloc _⟩

set_option maxHeartbeats 800000 in
set_option maxRecDepth 1000000 in
theorem spanMay_yes (p q n : Int) (w : World) (h0 : 0 ≤ p) (h1 : p ≤ q) (h2 : q ≤ n) : Calls Try.prog 55 #[.agg #[.int .i64 p, .int .i64 q], .int .i64 n] w fun e w' => e = .returned (.bool true) ∧ Ext w w' := by
  go_enter Try.func55, Try.ntmps55
  go_wp2_with fail
  go_ret
  exact ⟨rfl, (Mod.refl _ w).alloc _⟩

set_option maxHeartbeats 800000 in
set_option maxRecDepth 1000000 in
theorem insert_one (v f : Value) (w : World) : Calls Try.prog 107 #[v, .int .i64 0, .int .i64 1, f] w fun e w' => e = .returned (.tuple #[]) ∧ w' = w := by
  go_enter Try.func107, Try.ntmps107
  go_wp2_with fail
  refine wp_loop_rounds 1 ?_
  rw [rounds_succ]
  go_wp2_with fail
  go_end0
  exact ⟨rfl, rfl⟩
set_option maxHeartbeats 800000 in
set_option maxRecDepth 1000000 in
theorem stable_one (v f : Value) (w : World) : Calls Try.prog 104 #[v, .int .i64 1, f] w fun e w' => e = .returned (.tuple #[]) ∧ w' = w := by
  go_enter Try.func104, Try.ntmps104
  go_wp2_with fail
  refine wp_loop_rounds 1 ?_
  rw [rounds_succ]
  go_wp2_with fail
  refine (insert_one v f _).mono ?_
  rintro e w1 ⟨rfl, rfl⟩
  go_wp2_with fail
  refine wp_loop_rounds 1 ?_
  rw [rounds_succ]
  go_wp2_with fail
  go_end0
  exact ⟨rfl, rfl⟩
set_option maxHeartbeats 800000 in
set_option maxRecDepth 1000000 in
theorem sort_one (ao : Option Addr) (cap : Nat) (f : Value) (w : World) : Calls Try.prog 86 #[.slice ao 1 cap, f] w fun e w' => e = .returned (.tuple #[]) ∧ w' = w := by
  go_enter Try.func86, Try.ntmps86
  go_wp2_with fail
  refine (stable_one _ f _).mono ?_
  rintro e w1 ⟨rfl, rfl⟩
  go_wp2_with fail
  go_end0
  exact ⟨rfl, rfl⟩

theorem Try.info47 : (Try.prog.info? 47).map (fun i => (i.zero, i.size, i.bytes)) = some (some (.agg #[.int .i64 0, .int .i64 0]), 2, 16) := by kernel_rfl

/-- One selection in a new row. -/
def OneRow (p q : Int) (w : World) (e : Ending) (w' : World) : Prop :=
  ∃ g cap, e = .returned (.slice (some ⟨g, 0, none⟩) 1 cap) ∧ w'.ownsRow w.heap.size 47 2 (.slice (some ⟨g, 0, none⟩) 1 cap) 1 [.int .i64 p, .int .i64 q] ∧ Ext w w'

theorem two_cells (p q : Int) : ∀ u ∈ [Value.int .i64 p, Value.int .i64 q], u.oneCell' = true := by
  intro u hu; simp only [List.mem_cons, List.not_mem_nil, or_false] at hu; rcases hu with rfl | rfl <;> rfl
set_option maxHeartbeats 800000 in
set_option maxRecDepth 1000000 in
theorem clone_one (b off cap : Nat) (p q : Int) (w : World) (hr : Reads w 2 (some ⟨b, off, none⟩) 1 [.int .i64 p, .int .i64 q]) :
    Calls Try.prog 85 #[.slice (some ⟨b, off, none⟩) 1 cap] w (OneRow p q w) := by
  have hnil := fun w' => Lib.run_eql_slice_nil (P := Try.prog) w' 43 47 (some ⟨b, off, none⟩) 1 cap 0 0 Try.underlying43
  have ha : Ext w (w.alloc (.cells #[] 47)) := (Mod.refl _ w).alloc _
  have hr2 := hr.mod ha (fun _ _ f => f)
  go_enter Try.func85, Try.ntmps85
  go_wp2_with (at_builtin; refine wpList_append_reads rfl _ _ 43 rfl w.heap.size 47 _ 2 16 Try.info47 Try.underlying43 rfl (by decide) _ 0 [] rfl (World.ownsRow_lit w #[] 0 (Nat.le_refl _) (by unfold maxLen; omega) rfl) _ 1 cap [.int .i64 p, .int .i64 q] rfl hr2 (two_cells p q) (by unfold maxLen; omega) (by omega) (by simp) ?_)
  intro v' w4 hown hm4 hbk
  obtain ⟨ax', cx', rfl, _, hag⟩ := ownsRow_shape hown
  obtain ⟨g, rfl⟩ := hag (by omega)
  have hx4 : Ext w w4 := ha.trans hm4 (fun i hi e => by cases e; exact absurd hi (Nat.lt_irrefl _))
  clear hm4 hbk
  go_wp2_with fail
  go_ret
  exact ⟨g, cx', rfl, by simpa using hown, hx4⟩

theorem reads_two {w : World} {b off : Nat} {p q : Int} (h : Reads w 2 (some ⟨b, off, none⟩) 1 [.int .i64 p, .int .i64 q]) : w.cell? ⟨b, off, none⟩ = some (.int .i64 p) ∧ w.cell? ⟨b, off + 1, none⟩ = some (.int .i64 q) := by
  obtain ⟨b', off', he, hc⟩ := h.2 (by omega)
  cases he
  exact ⟨hc 0 (by simp), hc 1 (by simp)⟩
set_option maxHeartbeats 1600000 in
set_option maxRecDepth 1000000 in
theorem order_one (b off cap : Nat) (p q : Int) (w : World) (hr : Reads w 2 (some ⟨b, off, none⟩) 1 [.int .i64 p, .int .i64 q]) :
    Calls Try.prog 56 #[.slice (some ⟨b, off, none⟩) 1 cap] w (OneRow p q w) := by
  have hlt : b < w.heap.size := World.block_lt_of_cell? w _ (reads_two hr).1
  go_enter Try.func56, Try.ntmps56
  go_wp2_with fail
  refine (clone_one b off cap p q w hr).mono ?_
  rintro e w1 ⟨g, c1, rfl, ho, hx⟩
  go_wp2_with fail
  refine (sort_one _ _ _ _).mono ?_
  rintro e w2 ⟨rfl, rfl⟩
  have hr1 := Reads.own ho
  obtain ⟨k0, k1⟩ := reads_two hr1
  have kl := World.block_lt_of_cell? _ _ k0
  have hsz := hx.size
  go_wp2_with fail
  refine wp_loop_rounds 2 ?_
  rw [rounds_succ]
  go_wp2_with fail
  go_quiet (fail)
  have hl1 : maxLen = 9223372036854775807 := rfl
  go_wp2_with (at_builtin; refine wpList_append_reads rfl _ _ 43 rfl w.heap.size 47 _ 2 16 Try.info47 Try.underlying43 rfl (by decide) _ 0 [] rfl (World.ownsRow_nil _ _ _ _) (some ⟨w2.heap.size + 1, 0, none⟩) 1 1 [.int .i64 p, .int .i64 q] rfl ?hrd (two_cells p q) (by omega) (by omega) ?hbs ?_)
  case hrd =>
    have := Reads.new ((w2.alloc (.cells #[.int .i64 p, .int .i64 q] 47)).drewN nq) 47 #[.int .i64 p, .int .i64 q] 2 1 rfl
    simpa using this
  case hbs => simp; omega
  intro v' w4 hown hm4 hbk
  obtain ⟨ax', cx', rfl, _, hag⟩ := ownsRow_shape hown
  obtain ⟨g4, rfl⟩ := hag (by omega)
  have hx3 : Ext w ((w2.alloc (.cells #[.int .i64 p, .int .i64 q] 47)).drewN nq) := (hx.alloc _).drewN nq
  have hx4 : Ext w w4 := (hx3.alloc _).trans hm4 (fun i hi e => by cases e)
  clear hm4 hbk hx3
  go_wp2_with fail
  rw [rounds_succ]
  go_wp2_with fail
  go_ret
  exact ⟨g4, cx', rfl, by simpa using hown, hx4⟩

set_option maxHeartbeats 1600000 in
set_option maxRecDepth 1000000 in
theorem norm_one (n : Int) (b off cap : Nat) (p q : Int) (w : World) (hr : Reads w 2 (some ⟨b, off, none⟩) 1 [.int .i64 p, .int .i64 q]) (h0 : 0 ≤ p) (h1 : p < q) (h2 : q ≤ n) :
    Calls Try.prog 27 #[.int .i64 n, .slice (some ⟨b, off, none⟩) 1 cap] w fun e w' => ∃ g c, e = .returned (.tuple #[.slice (some ⟨g, 0, none⟩) 1 c, .int .i64 0]) ∧ w'.ownsRow w.heap.size 47 2 (.slice (some ⟨g, 0, none⟩) 1 c) 1 [.int .i64 p, .int .i64 q] ∧ Ext w w' := by
  obtain ⟨k0, k1⟩ := reads_two hr
  have kl := World.block_lt_of_cell? _ _ k0
  go_enter Try.func27, Try.ntmps27
  go_wp2_with fail
  refine wp_loop_rounds 2 ?_
  rw [rounds_succ]
  go_wp2_with fail
  refine (span_rise p q _ h1).mono ?_
  rintro e w1 ⟨rfl, y1⟩
  go_wp2_with fail
  refine (spanMay_yes p q n _ h0 (by omega) h2).mono ?_
  rintro e w2 ⟨rfl, y2⟩
  have hx : Ext w w2 := (((Mod.refl _ w).alloc _).ext_trans y1).ext_trans y2
  have ho := order_one b off cap p q w2 (hr.mod hx (fun _ _ f => f))
  have Ho := Lib.hid ho
  clear ho y1 y2 k0 k1 hr
  go_wp2_with fail
  rw [rounds_succ]
  go_wp2_with fail
  refine Ho.out.mono ?_
  rintro e w3 ⟨g, c, rfl, hown, y3⟩
  have HO := Lib.hid (ownsRow_base hown hx.size)
  clear hown
  go_wp2_with fail
  go_ret2
  exact ⟨g, c, rfl, HO.out, hx.ext_trans y3⟩

/-- A new row of one selection, cell by cell. -/
theorem one_blk {w : World} {B g c : Nat} {p q : Int} (h : w.ownsRow B 47 2 (.slice (some ⟨g, 0, none⟩) 1 c) 1 [.int .i64 p, .int .i64 q]) :
    ∃ cs : Array Value, Blk w g 47 cs ∧ cs[0]? = some (.int .i64 p) ∧ cs[1]? = some (.int .i64 q) ∧ B ≤ g := by
  rcases h.2 with ⟨h1, _⟩ | ⟨g', c', cur, h1, h2, h3, _, _, h6, h7⟩
  · cases h1
  · cases h1
    have e0 : cur.toList[0]? = some (.int .i64 p) := by
      have := congrArg (fun l : List Value => l[0]?) h7
      simpa [List.getElem?_take] using this
    have e1 : cur.toList[1]? = some (.int .i64 q) := by
      have := congrArg (fun l : List Value => l[1]?) h7
      simpa [List.getElem?_take] using this
    exact ⟨cur, h3, by simpa using e0, by simpa using e1, h2⟩
theorem reads_of_cells {w : World} {g : Nat} {p q : Int} (h0 : w.cell? ⟨g, 0, none⟩ = some (.int .i64 p)) (h1 : w.cell? ⟨g, 1, none⟩ = some (.int .i64 q)) : Reads w 2 (some ⟨g, 0, none⟩) 1 [.int .i64 p, .int .i64 q] := by
  refine ⟨rfl, fun _ => ⟨g, 0, rfl, fun j hj => ?_⟩⟩
  have hj' : j = 0 ∨ j = 1 := by simp at hj; omega
  rcases hj' with rfl | rfl
  · exact h0
  · exact h1

set_option maxHeartbeats 1600000 in
set_option maxRecDepth 1000000 in
theorem go_one (R : Rp) (s : ByteArray) (b off cap p q : Nat) (way : Int) (w : World) (hR : RopeAt w R) (ht : R.text = s.data.toList) (hr : Reads w 2 (some ⟨b, off, none⟩) 1 [.int .i64 p, .int .i64 q]) (h1 : p < q) (h2 : q ≤ s.size) (h3 : 1 ≤ way) (h4 : way ≤ 10) (h5 : p < stepN s.data.toList q way) :
    Calls Try.prog 22 #[.agg #[.pointer (some ⟨R.rb, 0, none⟩)], .int .i64 way, .bool true, .slice (some ⟨b, off, none⟩) 1 cap] w fun e w' => ∃ g c, e = .returned (.tuple #[.slice (some ⟨g, 0, none⟩) 1 c, .int .i64 0]) ∧ w'.ownsRow w.heap.size 47 2 (.slice (some ⟨g, 0, none⟩) 1 c) 1 [.int .i64 p, .int .i64 (stepN s.data.toList q way : Nat)] ∧ Ext w w' := by
  have hx0 : Ext w (w.alloc (.cells #[.pointer (some ⟨R.rb, 0, none⟩)] 35)) := (Mod.refl _ w).alloc _
  have h0 := hR.ext hx0
  have hz := size_text ht
  have hsz := hR.size
  have hm := may_yes ⟨R.rb, 0, none⟩ way (w.alloc (.cells #[.pointer (some ⟨R.rb, 0, none⟩)] 35)) h3 h4
  have hln := fun v (hv : RopeAt v R) => len_any R v hv
  rw [hz] at hln
  have htx := fun v (hv : RopeAt v R) => text_rope R v hv
  rw [bs_eq ht] at htx
  have hst := fun v (hv : RopeAt v R) => stepIn_any R s q way v hv ht h2 h3 h4
  have hle := stepN_le s.data.toList q way (by rw [toList_length]; exact h2)
  rw [toList_length] at hle
  have Hl := Lib.hid hln
  have Ht := Lib.hid htx
  have Hs := Lib.hid hst
  generalize stepN s.data.toList q way = U at *
  clear hln htx hst ht h3 h4
  go_enter Try.func22, Try.ntmps22
  go_wp2_with fail
  refine hm.mono ?_
  rintro e w1 ⟨rfl, y1⟩
  have c := box_cell y1
  go_wp2_with fail
  refine (Hl.out _ (h0.ext y1)).mono ?_
  rintro e w2 ⟨rfl, rfl⟩
  go_wp2_with fail
  refine (norm_one s.size b off cap p q _ ((hr.mod hx0 (fun _ _ f => f)).mod y1 (fun _ _ f => f)) (by omega) (by omega) (by omega)).mono ?_
  rintro e w3 ⟨g, cp, rfl, hown, y3⟩
  obtain ⟨cs, hbg, k0, k1, hgB⟩ := one_blk hown
  have y3' := y1.ext_trans y3
  have c3 := box_cell y3'
  clear hown c
  go_wp2_with fail
  refine (Ht.out _ (h0.ext y3')).mono ?_
  rintro e w4 ⟨rfl, y4⟩
  have y4' := y3'.ext_trans y4
  have hb4 := hbg.mod y4 (fun f => f)
  have l0 : w4.cell? ⟨g, 0, none⟩ = some (.int .i64 p) := (hb4.cell 0).trans k0
  have l1 : w4.cell? ⟨g, 1, none⟩ = some (.int .i64 q) := (hb4.cell 1).trans k1
  have lt := hb4.lt
  have c4 := box_cell y4'
  have ltb := World.block_lt_of_cell? w4 _ c4
  clear c3
  go_wp2_with fail
  refine wp_loop_rounds 2 ?_
  rw [rounds_succ]
  have y5 := y4'.alloc (.cells #[.int .i64 p, .int .i64 q] 47)
  have hb5 := hb4.alloc (.cells #[.int .i64 p, .int .i64 q] 47)
  go_wp2_with fail
  refine (Hs.out _ (h0.ext y5)).mono ?_
  rintro e w6 ⟨rfl, y6⟩
  have y6' := y5.ext_trans y6
  have hb6 := hb5.mod y6 (fun f => f)
  have f1 := hb6.free 1
  have l1' : w6.cell? ⟨g, 1, none⟩ = some (.int .i64 q) := (hb6.cell 1).trans k1
  have lt6 := hb6.lt
  have c6 := box_cell y6'
  have ltb6 := World.block_lt_of_cell? w6 _ c6
  clear c4 l0 l1 hb4 hb5 hbg
  have hgw : w.heap.size + 1 ≤ g := Nat.le_trans (by have := y1.size; simpa using this) hgB
  have y7 := y6'.setCell (p := ⟨g, 1, none⟩) (fun hlt => by simp at hlt; omega) (.int .i64 (U : Nat))
  have hb7 := hb6.set 1 (.int .i64 (U : Nat))
  have m0 : (w6.setCell ⟨g, 1, none⟩ (.int .i64 (U : Nat))).cell? ⟨g, 0, none⟩ = some (.int .i64 p) := by
    rw [hb7.cell 0, Array.getElem?_setIfInBounds_ne (by omega)]; exact k0
  have m1 : (w6.setCell ⟨g, 1, none⟩ (.int .i64 (U : Nat))).cell? ⟨g, 1, none⟩ = some (.int .i64 (U : Nat)) := by
    rw [hb7.cell 1]
    have := (Array.getElem?_eq_some_iff.1 k1).1
    rw [Array.getElem?_setIfInBounds_self_of_lt this]
  have hr7 := reads_of_cells m0 m1
  have c7 := box_cell y7
  have Hn := Lib.hid (norm_one s.size g 0 cp p U _ hr7 (by omega) (by omega) (by omega))
  have HR7 := Lib.hid (h0.ext y7)
  have hsz7 := y7.size
  clear hb6 hb7 m0 m1 hr7
  go_wp2_with fail
  rw [rounds_succ]
  go_wp2_with fail
  refine (Hl.out _ HR7.out).mono ?_
  rintro e w8 ⟨rfl, rfl⟩
  go_wp2_with fail
  refine Hn.out.mono ?_
  rintro e w9 ⟨g9, c9, rfl, hown9, y9⟩
  have HO := Lib.hid (ownsRow_base hown9 (b' := w.heap.size) (by simp at hsz7 ⊢; omega))
  clear hown9
  go_wp2_with fail
  go_ret2
  exact ⟨g9, c9, rfl, HO.out, (hx0.ext_trans y7).ext_trans y9⟩

end Go.Proofs.Ytmecdhbiinpepaa

/- From a call that answers true and leaves all that was there as it was, to the statement's row: what all laws of this claim share. Conditions: none. -/
import Derived.Test.YthlmgoagnfkhdaaGreatGimG02
import Derived.Test.YthlmgoagnfkhdaaGreatGimG01
import Derived.Test.YthlmgoagnfkhdaaGreatRows
import Derived.ProofKit
import Derived.Deep.Slices
set_option maxHeartbeats 6400000
set_option maxRecDepth 1000000
set_option linter.unusedVariables false
set_option linter.unusedSimpArgs false
namespace Go.Proofs.YthlmgoagnfkhdaaGreat
open Go.ChangeShapes Go.WideShapes Go.ChangeAt Go.RowKit Go.Gim
theorem Tryz.own : ownKnob Tryz.prog.godebug = none := by kernel_rfl
theorem Tryz.laidOut : laidOutB Tryz.prog = true := by kernel_rfl
theorem trodAll_below {H : Type} {enc : TypeId × Value → H} {P : Program} (hl : laidOutB P = true) {W W' : World} (hb : Below W.heap.size W W') : ∀ (ts : List TypeId) (vs : List Value) (ds : List (DataW H)) (ps : List MemPlace),
  (ts.all fun t => P.readableRec t && decide (t < P.types.size)) = true → DataW.TrodAll enc P W 0 (fun _ => true) true ts vs ds ps → (∀ x ∈ ps, x.block < W.heap.size) →
  DataW.TrodAll enc P W' 0 (fun b => decide (b < W.heap.size)) true ts vs ds ps := by
 intro ts
 induction ts with
 | nil =>
  intro vs ds ps _ h _
  cases vs <;> cases ds <;> simp [DataW.TrodAll] at h ⊢
  exact h
 | cons t ts ih =>
  intro vs ds ps hall h hlt
  obtain ⟨v, vs', d, ds', p, q, rfl, rfl, rfl, h1, h2⟩ := trodAll_cons h
  simp only [List.all_cons, Bool.and_eq_true, decide_eq_true_eq] at hall
  have g1 := Below.trod hl hall.1.1 hall.1.2 h1 hb (fun x hx => hlt x (List.mem_append.2 (.inl hx)))
  have g2 := ih vs' ds' q (by simpa using hall.2) h2 (fun x hx => hlt x (List.mem_append.2 (.inr hx)))
  simp only [DataW.TrodAll]
  exact ⟨p, q, g1, g2, rfl⟩
theorem law_post {H : Type} {enc : TypeId × Value → H} {P : Program} {fn : Func} {s : ChangeSpec} {F : Nat} {tb : TypeId} (hl : laidOutB P = true) (hts : (fn.params.toList.all fun t => P.readableRec t && decide (t < P.types.size)) = true)
  (hres : fn.resultTypes = #[tb]) (htb : P.underlying tb = some .bool) (hvars : s.vars = [])
  {W : World} {args : Array Value} {ds gs : List (DataW H)} {before : List MemPlace} (hW : DataW.Whole enc P fn.params.toList s.vars false W args.toList ds gs before)
  (hfn : s.fn H (ds ++ []) = { results := [.lit (.bool true)], args := ds })
  (hc : Calls P F args W fun e W' => e = .returned (.bool true) ∧ Ext W W') :
  Calls P F args W fun e W' => ∃ v, e = .returned v ∧ s.post enc P fn false true false false W args v W' := by
 refine hc.mono fun e W' ⟨he, hx⟩ => ?_
 refine ⟨.bool true, he, ?_⟩
 have hW' := hW
 obtain ⟨p, q, hA, hV, rfl, hz, hn⟩ := hW
 rw [hvars] at hV
 obtain ⟨rfl, rfl⟩ := trodVars_none hV
 have hlt : ∀ x ∈ p, x.block < W.heap.size := fun x hx => by simpa using hW'.lt x (List.mem_append.2 (.inl hx))
 have hargs := trodAll_below hl hx.below _ _ _ _ hts hA hlt
 refine ⟨ds, [], p ++ [], [], p, [], hW', ?_, ?_, ?_, hx.below.frame _, fun h => by cases h⟩
 ·rw [hfn, hres]
  exact trodAll_mk1 (shut_bool htb true)
 ·rw [hfn]; exact hargs
 ·rw [hfn, hvars]; rfl
theorem list_choose {α β : Type} (f : β → α) (Q : β → Prop) : ∀ (l : List α), (∀ a ∈ l, ∃ b, a = f b ∧ Q b) → ∃ bs : List β, l = bs.map f ∧ ∀ b ∈ bs, Q b
 | [], _ => ⟨[], rfl, by simp⟩
 | a :: l, h => by
  obtain ⟨b, hb, hq⟩ := h a (by simp)
  obtain ⟨bs, hbs, hqs⟩ := list_choose f Q l (fun x hx => h x (by simp [hx]))
  refine ⟨b :: bs, by simp [hb, hbs], ?_⟩
  intro x hx
  rcases List.mem_cons.1 hx with rfl | hx
  ·exact hq
  ·exact hqs x hx
theorem flatten_len {α : Type} (sz : Nat) : ∀ (els : List (List α)), (∀ el ∈ els, el.length = sz) → els.flatten.length = els.length * sz
 | [], _ => by simp
 | x :: r, h => by
  rw [List.flatten_cons, List.length_append, h x (by simp), flatten_len sz r (fun el hel => h el (by simp [hel])), List.length_cons, Nat.add_mul, Nat.one_mul, Nat.add_comm]
theorem flatten_at {α : Type} (sz : Nat) (hsz : 0 < sz) : ∀ (els : List (List α)) (j : Nat), (∀ el ∈ els, el.length = sz) → els.flatten[j]? = (els[j / sz]?).bind (fun el => el[j % sz]?)
 | [], j, _ => by simp
 | x :: r, j, h => by
  rw [List.flatten_cons]
  have hx : x.length = sz := h x (by simp)
  by_cases hj : j < sz
  ·rw [List.getElem?_append_left (by omega), Nat.div_eq_of_lt hj, Nat.mod_eq_of_lt hj]; simp
  ·rw [List.getElem?_append_right (by omega), hx, flatten_at sz hsz r (j - sz) (fun el hel => h el (by simp [hel]))]
   have e1 : j / sz = (j - sz) / sz + 1 := by rw [Nat.div_eq_sub_div hsz (by omega)]
   have e2 : (j - sz) % sz = j % sz := (Nat.mod_eq_sub_mod (by omega)).symm
   rw [e1, e2]; simp
theorem open_slice_reads {H : Type} {enc : TypeId × Value → H} {P : Program} {W : World} {b0 : Nat} {t e : TypeId} {v : Value} {d : DataW H} {ps : List MemPlace} (sz : Nat) (ht : P.underlying t = some (.slice e)) (hc : P.cellsOf e = sz) (hsz : 0 < sz)
  (hval : Value.okWide P W .any b0 t v) (hd : DataW.Trod enc P W 0 (fun _ => true) true t v d ps) :
  ∃ (ao : Option Addr) (cap : Nat) (els : List (List Value)), v = .slice ao els.length cap ∧ Reads W sz ao els.length els.flatten ∧ els.length ≤ maxLen ∧
   ∀ el ∈ els, el.length = sz ∧ ∃ n x, DataW.trod enc P W 0 (fun _ => true) true n e el = some x := by
 obtain ⟨a0, len, cap, rfl⟩ := okWide_slice ht hval
 obtain ⟨fuel, hf⟩ := hd
 rcases Go.Deep.open_slice ht hf with ⟨hcs, _⟩ | ⟨a, len', cap', m, n, D, Pl, hcs, _, hl, hm, hmm, _, hx⟩
 ·simp [Value.cells] at hcs
  obtain ⟨rfl, rfl, rfl⟩ := hcs
  exact ⟨none, 0, [], rfl, ⟨by simp, fun h => absurd h (Nat.lt_irrefl _)⟩, Nat.zero_le _, by simp⟩
 ·simp [Value.cells] at hcs
  obtain ⟨rfl, rfl, rfl⟩ := hcs
  simp only [if_true] at hmm
  subst hmm
  obtain ⟨C, hC⟩ := Go.Deep.choose_lt (α := List Value) (p := fun i cs' => W.cells? 0 (a.add (i * P.cellsOf e)) (P.cellsOf e) = some cs' ∧ DataW.trod enc P W 0 (fun _ => true) true n e cs' = some (D i, Pl i)) hx
  rw [hc] at hC
  have hlen : ∀ el ∈ (List.range len).map C, el.length = sz := by
   intro el hel
   obtain ⟨i, hi, rfl⟩ := List.mem_map.1 hel
   have := (World.cells?_some (hC i (by simp at hi; omega)).1).2.1
   exact this
  have hn : ((List.range len).map C).length = len := by simp
  refine ⟨some a, m, (List.range len).map C, by rw [hn], ⟨flatten_len sz _ hlen, fun h0 => ?_⟩, by omega, fun el hel => ⟨hlen el hel, ?_⟩⟩
  ·obtain ⟨b, off, spot⟩ := a
   have h00 := (World.cells?_some (hC 0 (by rw [hn] at h0; omega)).1).2.2 0 hsz
   have hl0 := (World.cells?_some (hC 0 (by rw [hn] at h0; omega)).1).2.1
   have hspot : spot = none := by
    rw [Nat.zero_mul] at h00
    have h01 : W.cell? ⟨b, off, spot⟩ = some ((C 0)[0]'(by omega)) := by
     have h02 : ((⟨b, off, spot⟩ : Addr).add 0).add 0 = ⟨b, off, spot⟩ := by simp [Addr.add]
     rw [h02] at h00
     rw [h00]; exact List.getElem?_eq_getElem _
    exact World.cell?_spot h01
   subst hspot
   refine ⟨b, off, rfl, fun j hj => ?_⟩
   rw [flatten_at sz hsz _ _ hlen]
   rw [flatten_len sz _ hlen, hn] at hj
   have hjd : j / sz < len := (Nat.div_lt_iff_lt_mul hsz).2 hj
   have hcj := (World.cells?_some (hC (j / sz) (by omega)).1).2.2 (j % sz) (Nat.mod_lt _ hsz)
   rw [WideShapes.add_plain, WideShapes.add_plain, Nat.add_assoc, Nat.mul_comm, Nat.div_add_mod] at hcj
   rw [hcj]
   simp [hjd]
  ·obtain ⟨i, hi, rfl⟩ := List.mem_map.1 hel
   exact ⟨n, _, (hC i (by simp at hi; omega)).2⟩
end Go.Proofs.YthlmgoagnfkhdaaGreat
namespace Go.Proofs.YthlmgoagnfkhdaaGreat
open Go.RowKit Go.Gim
theorem isNaN_any (x : Int) (w : World) : Calls Tryz.prog 111 #[.int .i64 x] w fun e w' => e = .returned (.bool false) ∧ w' = w := by
 go_enter Tryz.func111, Tryz.ntmps111
 go_wp2_with fail
 go_ret
 exact ⟨rfl, rfl⟩
def cmpI (x y : Int) : Int := if x < y then -1 else if y < x then 1 else 0
theorem compare_any (x y : Int) (w : World) : Calls Tryz.prog 76 #[.int .i64 x, .int .i64 y] w fun e w' => e = .returned (.int .i64 (cmpI x y)) ∧ w' = w := by
 unfold cmpI
 by_cases h : x < y
 ·rw [if_pos h]
  go_enter Tryz.func76, Tryz.ntmps76
  go_wp2_with ((with_reducible refine (isNaN_any _ _).mono ?_); rintro e w1 ⟨rfl, rfl⟩)
  go_ret
  exact ⟨rfl, rfl⟩
 ·rw [if_neg h]
  by_cases h2 : y < x
  ·rw [if_pos h2]
   go_enter Tryz.func76, Tryz.ntmps76
   go_wp2_with ((with_reducible refine (isNaN_any _ _).mono ?_); rintro e w1 ⟨rfl, rfl⟩)
   go_ret
   exact ⟨rfl, rfl⟩
  ·rw [if_neg h2]
   go_enter Tryz.func76, Tryz.ntmps76
   go_wp2_with ((with_reducible refine (isNaN_any _ _).mono ?_); rintro e w1 ⟨rfl, rfl⟩)
   go_ret
   exact ⟨rfl, rfl⟩
theorem or_two' (x y : Int) (b : Nat) (w : World) (h0 : w.cell? ⟨b, 0, none⟩ = some (.int .i64 x)) (h1 : w.cell? ⟨b, 1, none⟩ = some (.int .i64 y)) :
  Calls Tryz.prog 75 #[.slice (some ⟨b, 0, none⟩) 2 2] w fun e w' => e = .returned (.int .i64 (if x ≠ 0 then x else y)) ∧ w' = w := by
 by_cases hx : x = 0
 ·subst hx
  by_cases hy : y = 0
  ·subst hy
   go_enter Tryz.func75, Tryz.ntmps75
   go_wp2_with fail
   refine wp_loop_rounds 3 ?_
   rw [rounds_succ]
   go_wp2_with fail
   rw [rounds_succ]
   go_wp2_with fail
   rw [rounds_succ]
   go_wp2_with fail
   go_ret
   exact ⟨rfl, rfl⟩
  ·have hy1 : (y == 0) = false := by simpa using hy
   have hy2 : (y != 0) = true := by simpa using hy
   go_enter Tryz.func75, Tryz.ntmps75
   go_wp2_with fail
   refine wp_loop_rounds 3 ?_
   rw [rounds_succ]
   go_wp2_with fail
   rw [rounds_succ]
   go_wp2_with fail
   go_ret
   exact ⟨rfl, rfl⟩
 ·have hx1 : (x == 0) = false := by simpa using hx
  have hx2 : (x != 0) = true := by simpa using hx
  rw [if_pos hx]
  go_enter Tryz.func75, Tryz.ntmps75
  go_wp2_with fail
  refine wp_loop_rounds 3 ?_
  rw [rounds_succ]
  go_wp2_with fail
  go_ret
  exact ⟨rfl, rfl⟩
def orI (x y : Int) : Int := if x ≠ 0 then x else y
theorem or_two (x y : Int) (b : Nat) (w : World) (h0 : w.cell? ⟨b, 0, none⟩ = some (.int .i64 x)) (h1 : w.cell? ⟨b, 1, none⟩ = some (.int .i64 y)) :
  Calls Tryz.prog 75 #[.slice (some ⟨b, 0, none⟩) 2 2] w fun e w' => e = .returned (.int .i64 (orI x y)) ∧ w' = w := or_two' x y b w h0 h1
def cmpB (x y : Int × Int) : Int := orI (cmpI x.1 y.1) (cmpI x.2 y.2)
theorem cmpB_less (x y : Int × Int) : decide (cmpB x y < 0) = lessB x y := by
 unfold cmpB orI cmpI lessB
 rw [Bool.eq_iff_iff, decide_eq_true_eq, decide_eq_true_eq]
 repeat' split
 all_goals omega
end Go.Proofs.YthlmgoagnfkhdaaGreat
namespace Go.Gim
def mayS (x : Int × Int) (n : Int) : Bool := decide (0 ≤ x.1 ∧ x.1 ≤ x.2 ∧ x.2 ≤ n)
def withinS (x y : Int × Int) : Bool := decide (y.1 ≤ x.1 ∧ x.2 ≤ y.2)
end Go.Gim
namespace Go.Proofs.YthlmgoagnfkhdaaGreat
open Go.RowKit Go.Gim
theorem spMay_any (x : Int × Int) (n : Int) (w : World) : Calls Tryz.prog 55 #[.agg #[.int .i64 x.1, .int .i64 x.2], .int .i64 n] w fun e w' => e = .returned (.bool (mayS x n)) ∧ Ext w w' := by
 obtain ⟨p, q⟩ := x
 simp only [mayS]
 go_enter Tryz.func55, Tryz.ntmps55
 go_wp2_with fail
 all_goals
  go_ret
  exact ⟨ret_bool (by rw [Bool.eq_iff_iff]; simp; try omega), (Mod.refl _ w).alloc _⟩
theorem spWithin_any (x y : Int × Int) (w : World) : Calls Tryz.prog 26 #[.agg #[.int .i64 x.1, .int .i64 x.2], .agg #[.int .i64 y.1, .int .i64 y.2]] w fun e w' => e = .returned (.bool (withinS x y)) ∧ Ext w w' := by
 obtain ⟨p, q⟩ := x
 obtain ⟨r, s⟩ := y
 simp only [withinS]
 go_enter Tryz.func26, Tryz.ntmps26
 go_wp2_with fail
 all_goals
  go_ret
  exact ⟨ret_bool (by rw [Bool.eq_iff_iff]; simp; try omega), ((Mod.refl _ w).alloc _).alloc _⟩
theorem rfMay_any (x : Int × Int) (n : Int) (w : World) : Calls Tryz.prog 95 #[.agg #[.int .i64 x.1, .int .i64 x.2], .int .i64 n] w fun e w' => e = .returned (.bool (mayS x n)) ∧ Ext w w' := by
 obtain ⟨p, q⟩ := x
 simp only [mayS]
 go_enter Tryz.func95, Tryz.ntmps95
 go_wp2_with fail
 all_goals
  go_ret
  exact ⟨ret_bool (by rw [Bool.eq_iff_iff]; simp; try omega), (Mod.refl _ w).alloc _⟩
theorem rfWithin_any (x y : Int × Int) (w : World) : Calls Tryz.prog 98 #[.agg #[.int .i64 x.1, .int .i64 x.2], .agg #[.int .i64 y.1, .int .i64 y.2]] w fun e w' => e = .returned (.bool (withinS x y)) ∧ Ext w w' := by
 obtain ⟨p, q⟩ := x
 obtain ⟨r, s⟩ := y
 simp only [withinS]
 go_enter Tryz.func98, Tryz.ntmps98
 go_wp2_with fail
 all_goals
  go_ret
  exact ⟨ret_bool (by rw [Bool.eq_iff_iff]; simp; try omega), ((Mod.refl _ w).alloc _).alloc _⟩
theorem rfLess_any (x y : Int × Int) (w : World) : Calls Tryz.prog 136 #[.agg #[.int .i64 x.1, .int .i64 x.2], .agg #[.int .i64 y.1, .int .i64 y.2]] w fun e w' => e = .returned (.bool (lessB x y)) ∧ Ext w w' := by
 obtain ⟨a, b⟩ := x
 obtain ⟨c, d⟩ := y
 simp only [lessB]
 by_cases h1 : a < c
 ·rw [decide_eq_true (Or.inl h1)]
  go_enter Tryz.func136, Tryz.ntmps136
  go_wp2_with fail
  go_ret
  exact ⟨rfl, ((Mod.refl _ w).alloc _).alloc _⟩
 ·by_cases h2 : a = c
  ·have e1 : decide (a < c ∨ a = c ∧ b < d) = decide (b < d) := by rw [decide_eq_decide]; omega
   rw [e1]
   have b2 : (a == c) = true := by simpa using h2
   have b1 : decide (a < c) = false := decide_eq_false h1
   clear h1 h2 e1
   go_enter Tryz.func136, Tryz.ntmps136
   go_wp2_with fail
   go_ret
   exact ⟨rfl, ((Mod.refl _ w).alloc _).alloc _⟩
  ·rw [decide_eq_false (by omega)]
   have b2 : (a == c) = false := by simpa using h2
   have b1 : decide (a < c) = false := decide_eq_false h1
   clear h1 h2
   go_enter Tryz.func136, Tryz.ntmps136
   go_wp2_with fail
   go_ret
   exact ⟨rfl, ((Mod.refl _ w).alloc _).alloc _⟩
theorem rfLess4_any (a b c d : Int) (w : World) : Calls Tryz.prog 136 #[.agg #[.int .i64 a, .int .i64 b], .agg #[.int .i64 c, .int .i64 d]] w fun e w' => e = .returned (.bool (lessB (a, b) (c, d))) ∧ Ext w w' := rfLess_any (a, b) (c, d) w
end Go.Proofs.YthlmgoagnfkhdaaGreat

/- What rope's Join computes. Conditions: ropes of at most 65536 bytes, apart. -/
import Derived.Test.YtbcjlbapgidhiaaGimRope3
import Derived.Test.YtbcjlbapgidhiaaGimTailM
import Derived.LaidEqlPtr
namespace Go.Proofs.Ytbcjlbapgidhiaa
open Go.RowKit Go.Gim Go.Lib

/-- The rope behind weld of whatever trees, and the store of its new root. -/
theorem RopeAt.rooted2 {w2 w3 : World} {R : Rp} {D : Dice} {A : List Nat} {t : T} {old : Value} (hb2 : Blk w2 R.rb 92 #[.pointer (some ⟨R.D.d, 0, none⟩), old]) (hrA : R.rb ∉ A) (hoff : R.D.Off [R.rb]) (hoffA : R.D.Off A)
    (hD : DiceOf w2 R.D) (hl : Dice.Like D R.D) (hW : WeldAt D A w2 t .nil w3) (hp : Pcs t.owns) (hs : t.size ≤ 65536) :
    RopeAt (w3.setCell ⟨R.rb, 1, none⟩ (.pointer t.addr)) { R with t := t } ∧ Mod (fun k => k ∈ A ∨ k = R.D.d ∨ k = R.rb) w2 (w3.setCell ⟨R.rb, 1, none⟩ (.pointer t.addr)) ∧ ∀ k ∈ t.blocks, k ∈ A ∨ w2.heap.size ≤ k := by
  have hrl := hb2.lt
  obtain ⟨D0, k1, k2⟩ := hD
  have hdl := k1.lt
  rw [k2.1, k2.2.1] at hdl
  have hr0 := hoff R.rb (List.mem_singleton.2 rfl)
  have hrd : R.rb ≠ D.d := by rw [hl.1]; exact hr0.1
  have htn : ∀ k, k ∈ t.blocks → k ∈ A ∨ w2.heap.size ≤ k := fun k hk => hW.old k (List.mem_append_left _ hk)
  have hrt2 : R.rb ∉ t.blocks := fun hk => (htn _ hk).elim hrA (fun h => by omega)
  have hb3 := hb2.mod hW.mod (fun h => h.elim hrA hrd)
  have hset : Mod (· = R.rb) w3 (w3.setCell ⟨R.rb, 1, none⟩ (.pointer t.addr)) := (Mod.refl (· = R.rb) w3).setCell (p := ⟨R.rb, 1, none⟩) (fun _ => rfl) _
  obtain ⟨D3, hD3, hl3⟩ := hW.dice
  have hl3' : Dice.Like D3 R.D := hl3.trans hl
  refine ⟨⟨?_, hW.ta.mod hset (fun k hk e => hrt2 (e ▸ hk)), ?_, hW.ha, hW.la, hp, ⟨D3, hD3.mod hset ?_ ?_, hl3'⟩, ?_, hs⟩, ?_, htn⟩
  · exact hb3.set 1 _
  · refine List.nodup_cons.2 ⟨hrt2, ?_⟩
    have := hW.nd
    rwa [show t.blocks ++ T.nil.blocks = t.blocks from List.append_nil _] at this
  · rw [hl3'.1]; exact fun e => hr0.1 e.symm
  · rw [hl3'.2.1]; intro k hk e; exact hr0.2 (e ▸ hk)
  · intro k hk
    rcases List.mem_cons.1 hk with rfl | hk
    · exact hr0
    · rcases htn k hk with h1 | h1
      · exact hoffA k h1
      · exact ⟨fun e => by have := hdl.1; have e2 : k = R.D.d := e; omega, fun e => by have := hdl.2 k e; omega⟩
  · exact Mod.trans (hW.mod.mono (fun k _ h => h.imp id (fun h => .inl (h.trans hl.1)))) hset (fun k _ h => .inr (.inr h))

/-- Behind Join: both texts in the first rope, none in the other. -/
structure Joined (R O R' : Rp) (w w' : World) : Prop where
  rope : RopeAt w' R'
  text : R'.text = R.text ++ O.text
  rb : R'.rb = R.rb
  dice : R'.D = R.D
  other : RopeAt w' { O with t := .nil }
  old : ∀ k ∈ R'.t.blocks, k ∈ R.t.blocks ∨ k ∈ O.t.blocks ∨ w.heap.size ≤ k
  mod : Mod (fun k => R.Foot k ∨ k ∈ O.all) w w'

def JoinPost (R O : Rp) (w : World) (e : Ending) (w' : World) : Prop := e = .returned (.int .i64 0) ∧ ∃ R', Joined R O R' w w'

theorem Try.ropeSize : (Try.prog.info? 92).map (·.size) = some 2 := by kernel_rfl

set_option maxHeartbeats 800000 in
set_option maxRecDepth 1000000 in
theorem join_nil (o : Option Addr) (w : World) : Calls Try.prog 32 #[.pointer none, .pointer o] w fun e w' => e = .returned (.int .i64 1) ∧ w' = w := by
  go_enter Try.func32, Try.ntmps32
  go_wp2_with fail
  go_ret
  exact ⟨rfl, rfl⟩
set_option maxHeartbeats 800000 in
set_option maxRecDepth 1000000 in
theorem join_none (r : Addr) (w : World) : Calls Try.prog 32 #[.pointer (some r), .pointer none] w fun e w' => e = .returned (.int .i64 1) ∧ w' = w := by
  go_enter Try.func32, Try.ntmps32
  go_wp2_with fail
  go_ret
  exact ⟨rfl, rfl⟩
set_option maxHeartbeats 800000 in
set_option maxRecDepth 1000000 in
theorem join_self (R : Rp) (w : World) : Calls Try.prog 32 #[.pointer (some ⟨R.rb, 0, none⟩), .pointer (some ⟨R.rb, 0, none⟩)] w fun e w' => e = .returned (.int .i64 2) ∧ w' = w := by
  obtain ⟨j, hj, _⟩ := Option.map_eq_some_iff.1 Try.ropeSize
  have he := fun W : World => run_eql_ptr_same (P := Try.prog) W (tp := 26) (j := j) ⟨R.rb, 0, none⟩ Try.underlying26 hj
  clear hj
  go_enter Try.func32, Try.ntmps32
  go_wp2_with fail
  go_ret
  exact ⟨rfl, rfl⟩
set_option maxHeartbeats 1600000 in
set_option maxRecDepth 1000000 in
theorem join_big (R O : Rp) (w : World) (h : RopeAt w R) (hO : RopeAt w O) (ha : R.rb ≠ O.rb) (hs : 65536 < R.t.size + O.t.size) : Calls Try.prog 32 #[.pointer (some ⟨R.rb, 0, none⟩), .pointer (some ⟨O.rb, 0, none⟩)] w fun e w' => e = .returned (.int .i64 4) ∧ ∃ n, w' = w.drewN n := by
  obtain ⟨j, hj, hjs⟩ := Option.map_eq_some_iff.1 Try.ropeSize
  have he := run_eql_ptr_other (P := Try.prog) w (tp := 26) (j := j) (a := ⟨O.rb, 0, none⟩) (b := ⟨R.rb, 0, none⟩) Try.underlying26 hj (by omega) (fun e => ha (congrArg Addr.block e).symm) hO.blk h.blk
  obtain ⟨_, c1, _, hb⟩ := h.cells
  obtain ⟨_, o1, _, hob⟩ := hO.cells
  have hsz := h.size
  have hsz2 := hO.size
  have hs' : (65536 : Int) - (R.t.size : Int) < (O.t.size : Int) := by omega
  clear hjs hj
  go_enter Try.func32, Try.ntmps32
  go_wp2_with fail
  go_quiet (exact Calls.quiet_of_same (size_any _ _ (by first | exact h.tree.drewN _ | exact hO.tree.drewN _)))
  go_wp2_with fail
  go_ret
  exact ⟨rfl, _, rfl⟩
set_option maxHeartbeats 1600000 in
set_option maxRecDepth 1000000 in
theorem join_any (R O : Rp) (w : World) (h : RopeAt w R) (hO : RopeAt w O) (ha : Apart R O) (hs : R.t.size + O.t.size ≤ 65536) : Calls Try.prog 32 #[.pointer (some ⟨R.rb, 0, none⟩), .pointer (some ⟨O.rb, 0, none⟩)] w (JoinPost R O w) := by
  have hne : O.rb ≠ R.rb := fun e => ha.blocks R.rb (List.mem_cons_self ..) (by rw [← e]; exact List.mem_cons_self ..)
  obtain ⟨j, hj, hjs⟩ := Option.map_eq_some_iff.1 Try.ropeSize
  have he := run_eql_ptr_other (P := Try.prog) w (tp := 26) (j := j) (a := ⟨O.rb, 0, none⟩) (b := ⟨R.rb, 0, none⟩) Try.underlying26 hj (by omega) (fun e => hne (congrArg Addr.block e)) hO.blk h.blk
  obtain ⟨c0, c1, f1, hb⟩ := h.cells
  obtain ⟨_, o1, g1, hob⟩ := hO.cells
  have hsz := h.size
  have hsz2 := hO.size
  have hs' : ¬ (65536 : Int) - (R.t.size : Int) < (O.t.size : Int) := by omega
  clear hjs hj
  go_enter Try.func32, Try.ntmps32
  go_wp2_with fail
  go_quiet (exact Calls.quiet_of_same (size_any _ _ (by first | exact h.tree.drewN _ | exact hO.tree.drewN _)))
  go_wp2_with fail
  clear he
  have h2 := h.drewN nq
  have hO2 := hO.drewN nq
  have hx2 : Ext w (w.drewN nq) := (Mod.refl _ w).drewN nq
  generalize w.drewN nq = w2 at *
  clear c0 c1 f1 hb o1 g1 hob
  obtain ⟨c0, c1, f1, hb⟩ := h2.cells
  obtain ⟨_, o1, g1, hob⟩ := hO2.cells
  refine wp_region_ext_tail1 13 (.pointer (some ⟨R.rb, 0, none⟩)) _ rfl rfl rfl (by kernel_rfl) (by kernel_rfl) (fun _ _ _ _ h => h) ?_
  simp only [List.take_succ_cons, List.take_zero, List.drop_succ_cons, List.drop_zero, Act.put, List.setIfInBounds_toArray, List.set_cons_zero, List.set_cons_succ, Nat.reduceSub]
  repeat (go_big_quiet_step (fail))
  refine wpQuiet_nil ?_
  intro we hxe
  have hR := h2.ext hxe
  have hOe := hO2.ext hxe
  obtain ⟨D, hD, hl⟩ := hR.dice
  have hrn := List.nodup_cons.1 h.nd
  have hon := List.nodup_cons.1 hO.nd
  have hI : WeldIn D R.t ⟨#[]⟩ O.t we := by
    refine ⟨WeldAt.start hR.tree hOe.tree (List.nodup_append.2 ⟨hrn.2, hon.2, fun k hk k2 hk2 e => ?_⟩) h.heap hO.heap h.le hO.le hD, hD, fun k hk => ?_, h.pcs, hO.pcs, by have : (⟨#[]⟩ : ByteArray).size = 0 := rfl; omega⟩
    · subst e; exact ha.blocks k (List.mem_cons_of_mem _ hk) (List.mem_cons_of_mem _ hk2)
    · rcases List.mem_append.1 hk with hk | hk
      · exact (h.off.like hl) k (List.mem_cons_of_mem _ hk)
      · exact (ha.offR.like hl) k (List.mem_cons_of_mem _ hk)
  have hwe := weld_any D R.t O.t ⟨#[]⟩ we hI
  rw [hl.1] at hwe
  have hrA : R.rb ∉ R.t.blocks ++ O.t.blocks := fun hk => (List.mem_append.1 hk).elim hrn.1 (fun h => ha.blocks R.rb (List.mem_cons_self ..) (List.mem_cons_of_mem _ h))
  have hoA : O.rb ∉ R.t.blocks ++ O.t.blocks := fun hk => (List.mem_append.1 hk).elim (fun h => ha.blocks O.rb (List.mem_cons_of_mem _ h) (List.mem_cons_self ..)) hon.1
  have hRD : ∀ k, k ∈ R.all ∨ k ∈ O.all → k ≠ R.D.d ∧ R.D.sv.ownBlock ≠ some k := fun k hk => hk.elim (h.off k) (ha.offR k)
  have hOD : ∀ k, k ∈ R.all ∨ k ∈ O.all → k ≠ O.D.d ∧ O.D.sv.ownBlock ≠ some k := fun k hk => hk.elim (ha.offO k) (hO.off k)
  have HRb := Lib.hid hR.blk
  have HOb := Lib.hid hOe.blk
  have HD := Lib.hid hl
  clear c0 c1 f1 hb o1 g1 hob hl
  go_wp2_with fail
  refine hwe.mono ?_
  rintro e w3 ⟨t, rfl, hj, hp, hW⟩
  have hrb3 := HRb.out.mod hW.mod (fun h => h.elim hrA (fun h => (hRD R.rb (.inl (List.mem_cons_self ..))).1 (h.trans HD.out.1)))
  have hob3 := HOb.out.mod hW.mod (fun h => h.elim hoA (fun h => (hRD O.rb (.inr (List.mem_cons_self ..))).1 (h.trans HD.out.1)))
  have hts : t.size = R.t.size + O.t.size := by
    have h1 := congrArg List.length hj
    rw [List.length_append, List.length_append, ← T.size_join, ← T.size_join, ← T.size_join] at h1
    have : (⟨#[]⟩ : ByteArray).data.toList.length = 0 := rfl
    omega
  have htx : t.text = R.text ++ O.text := by
    rw [T.text_owns, hj, ← T.text_owns, ← T.text_owns]; rfl
  obtain ⟨k1, k2, k3⟩ := RopeAt.rooted2 (R := R) (w2 := we) (w3 := w3) hR.blk hrA (fun k hk => (by simp at hk; subst hk; exact hRD _ (.inl (List.mem_cons_self ..)))) (fun k hk => hRD k ((List.mem_append.1 hk).imp (fun h => List.mem_cons_of_mem _ h) (fun h => List.mem_cons_of_mem _ h))) ⟨D, hD, HD.out⟩ HD.out hW hp (by omega)
  have K1 := Lib.hid k1
  have K2 := Lib.hid k2
  have K3 := Lib.hid k3
  have Htx := Lib.hid htx
  have c1 := hrb3.cell 1
  have f1 := hrb3.free 1
  have hb := hrb3.lt
  have o1 := hob3.cell 1
  have g1 := hob3.free 1
  have hob := hob3.lt
  have hne2 := hne.symm
  clear hj hp hW k1 k2 k3 htx hts
  go_wp2_with fail
  go_ret
  have hob4 := (hob3.set_other (p := ⟨R.rb, 1, none⟩) hne (.pointer t.addr)).set 1 (.pointer none)
  have hset : Mod (· = O.rb) (w3.setCell ⟨R.rb, 1, none⟩ (.pointer t.addr)) ((w3.setCell ⟨R.rb, 1, none⟩ (.pointer t.addr)).setCell ⟨O.rb, 1, none⟩ (.pointer none)) := (Mod.refl (· = O.rb) _).setCell (p := ⟨O.rb, 1, none⟩) (fun _ => rfl) _
  have hor : O.rb ≠ R.D.d ∧ R.D.sv.ownBlock ≠ some O.rb := hRD O.rb (.inr (List.mem_cons_self ..))
  have hnt : O.rb ∉ t.blocks := fun hk => by
    rcases K3.out _ hk with h1 | h1
    · exact hoA h1
    · have := hOe.blk.lt; omega
  have hR' := K1.out.mod hset (fun k hk e => by
    subst e
    rcases List.mem_cons.1 hk with h1 | h1
    · exact hne h1
    · exact hnt h1) (by
    obtain ⟨D3, k4, k5⟩ := K1.out.dice
    exact ⟨D3, k4.mod hset (by rw [k5.1]; exact fun e => hor.1 e.symm) (by rw [k5.2.1]; exact fun k hk e => hor.2 (e ▸ hk)), k5⟩)
  have hmm : Mod (fun k => k ∈ R.all ∨ k ∈ O.all ∨ k = R.D.d) w ((w3.setCell ⟨R.rb, 1, none⟩ (.pointer t.addr)).setCell ⟨O.rb, 1, none⟩ (.pointer none)) := by
    refine Mod.trans (Mod.trans ((hx2.ext_trans hxe).any) K2.out (fun k _ h => ?_)) hset (fun k _ h => ?_)
    · rcases h with h | h | h
      · exact (List.mem_append.1 h).elim (fun h => .inl (List.mem_cons_of_mem _ h)) (fun h => .inr (.inl (List.mem_cons_of_mem _ h)))
      · exact .inr (.inr h)
      · subst h; exact .inl (List.mem_cons_self ..)
    · subst h; exact .inr (.inl (List.mem_cons_self ..))
  refine ⟨rfl, _, hR', Htx.out, rfl, rfl, ⟨hob4, trivial, by simp [Rp.all, T.blocks], trivial, trivial, good_nil, ?_, ?_, by simp [T.size, T.text]⟩, fun k hk => ?_, hmm.mono (fun k _ h => ?_)⟩
  · rcases ha.dice with hd | ⟨d1, d2, d3⟩
    · obtain ⟨D3, k4, k5⟩ := hR'.dice
      exact ⟨D3, k4, Dice.Like.trans k5 hd⟩
    · obtain ⟨D3, k4, k5⟩ := hO.dice
      refine ⟨D3, k4.mod hmm ?_ ?_, k5⟩
      · rw [k5.1]
        rintro (h1 | h1 | h1)
        · exact (ha.offO _ h1).1 rfl
        · exact (hO.off _ h1).1 rfl
        · exact d1 h1.symm
      · rw [k5.2.1]
        rintro k hk (h1 | h1 | h1)
        · exact (ha.offO _ h1).2 hk
        · exact (hO.off _ h1).2 hk
        · subst h1; exact d2 hk
  · intro k hk
    simp [Rp.all, T.blocks] at hk
    subst hk
    exact hO.off _ (List.mem_cons_self ..)
  · rcases K3.out k hk with h1 | h1
    · exact (List.mem_append.1 h1).imp id .inl
    · exact .inr (.inr (Nat.le_trans (hx2.ext_trans hxe).size h1))
  · rcases h with h | h | h
    · exact .inl (.inl h)
    · exact .inr h
    · exact .inl (.inr h)

end Go.Proofs.Ytbcjlbapgidhiaa

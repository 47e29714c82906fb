/- A rope in memory: its block, its dice, its tree; two ropes side by side. Conditions: at most 65536 bytes. -/
import Derived.Test.YthlmgoagnfkhdaaGreatGimG14
import Derived.Test.YthlmgoagnfkhdaaGreatGimG13
import Derived.Test.YthlmgoagnfkhdaaGreatGimG15
import Derived.Test.YthlmgoagnfkhdaaGreatGimG16
import Derived.Test.YthlmgoagnfkhdaaGreatGimG01
import Derived.Test.YthlmgoagnfkhdaaGreatGimG17
import Derived.Test.YthlmgoagnfkhdaaGreatGimG05
import Derived.Deep.RegionHeld3
import Derived.LaidEqlPtr
set_option maxHeartbeats 6400000
set_option maxRecDepth 1000000
set_option linter.unusedVariables false
set_option linter.unusedSimpArgs false
namespace Go.Proofs.YthlmgoagnfkhdaaGreat
open Go.RowKit Go.Gim
structure Rp where
 rb : Nat
 D : Dice
 t : T
def Rp.text (R : Rp) : List UInt8 := R.t.text
def Rp.all (R : Rp) : List Nat := R.rb :: R.t.blocks
def Rp.Foot (R : Rp) (k : Nat) : Prop := k ∈ R.all ∨ k = R.D.d
structure RopeAt (w : World) (R : Rp) : Prop where
 blk : Blk w R.rb 111 #[.pointer (some ⟨R.D.d, 0, none⟩), .pointer R.t.addr]
 tree : TreeAt w R.t
 nd : R.all.Nodup
 heap : R.t.Heap
 le : R.t.Le 4294967295
 pcs : Pcs R.t.owns
 dice : ∃ D, DiceAt w D ∧ Dice.Like D R.D
 off : R.D.Off R.all
 size : R.t.size ≤ 65536
theorem RopeAt.lt {w : World} {R : Rp} (h : RopeAt w R) : ∀ k ∈ R.all, k < w.heap.size := by
 intro k hk
 rcases List.mem_cons.1 hk with rfl | hk
 ·exact h.blk.lt
 ·exact h.tree.lt k hk
theorem RopeAt.dlt {w : World} {R : Rp} (h : RopeAt w R) : R.D.d < w.heap.size ∧ ∀ k, R.D.sv.ownBlock = some k → k < w.heap.size := by
 obtain ⟨D, hD, hl⟩ := h.dice
 have := hD.lt
 rw [hl.1, hl.2.1] at this
 exact this
theorem RopeAt.flt {w : World} {R : Rp} (h : RopeAt w R) : ∀ k, R.Foot k → k < w.heap.size := by
 rintro k (hk | rfl)
 ·exact h.lt k hk
 ·exact h.dlt.1
theorem RopeAt.mod {S : Nat → Prop} {w w' : World} {R : Rp} (h : RopeAt w R) (hm : Mod S w w') (h1 : ∀ k ∈ R.all, ¬ S k) (h2 : ∃ D, DiceAt w' D ∧ Dice.Like D R.D) : RopeAt w' R :=
 ⟨h.blk.mod hm (h1 _ (List.mem_cons_self ..)), h.tree.mod hm (fun k hk => h1 k (List.mem_cons_of_mem _ hk)), h.nd, h.heap, h.le, h.pcs, h2, h.off, h.size⟩
theorem RopeAt.ext {w w' : World} {R : Rp} (h : RopeAt w R) (hm : Ext w w') : RopeAt w' R :=
 h.mod hm (fun _ _ f => f) (let ⟨D, hD, hl⟩ := h.dice; ⟨D, hD.ext hm, hl⟩)
theorem RopeAt.drewN {w : World} {R : Rp} (h : RopeAt w R) (n : Nat) : RopeAt (w.drewN n) R := h.ext ((Mod.refl _ w).drewN n)
theorem RopeAt.far {S : Nat → Prop} {w w' : World} {R : Rp} (h : RopeAt w R) (hm : Mod S w w') (h1 : ∀ k, R.Foot k → ¬ S k) (h2 : ∀ k, R.D.sv.ownBlock = some k → ¬ S k) : RopeAt w' R :=
 h.mod hm (fun k hk => h1 k (.inl hk)) (let ⟨D, hD, hl⟩ := h.dice; ⟨D, hD.mod hm (by rw [hl.1]; exact h1 _ (.inr rfl)) (by rw [hl.2.1]; exact h2), hl⟩)
structure Apart (R O : Rp) : Prop where
 blocks : ∀ k ∈ R.all, k ∉ O.all
 offR : R.D.Off O.all
 offO : O.D.Off R.all
 dice : Dice.Like R.D O.D ∨ (R.D.d ≠ O.D.d ∧ O.D.sv.ownBlock ≠ some R.D.d ∧ R.D.sv.ownBlock ≠ some O.D.d)
theorem Dice.Like.symm {D E : Dice} (h : Dice.Like D E) : Dice.Like E D := ⟨h.1.symm, h.2.1.symm, h.2.2.symm⟩
theorem Apart.symm {R O : Rp} (h : Apart R O) : Apart O R :=
 ⟨fun k hk hk2 => h.blocks k hk2 hk, h.offO, h.offR, h.dice.imp Dice.Like.symm (fun ⟨a, b, c⟩ => ⟨a.symm, c, b⟩)⟩
theorem RopeAt.other {w w' : World} {R R' O : Rp} (hO : RopeAt w O) (ha : Apart R O) (hm : Mod R.Foot w w') (hR' : RopeAt w' R') (hD : R'.D = R.D) : RopeAt w' O := by
 have hno : ∀ k ∈ O.all, ¬ R.Foot k := by
  rintro k hk (h | rfl)
  ·exact ha.blocks k h hk
  ·exact (ha.offR _ hk).1 rfl
 refine hO.mod hm hno ?_
 rcases ha.dice with hl | ⟨h1, h2, h3⟩
 ·obtain ⟨D, hDw, hDl⟩ := hR'.dice
  rw [hD] at hDl
  exact ⟨D, hDw, hDl.trans hl⟩
 ·obtain ⟨D, hDw, hDl⟩ := hO.dice
  refine ⟨D, hDw.mod hm ?_ ?_, hDl⟩
  ·rintro (h | h)
   ·exact (ha.offO _ h).1 hDl.1
   ·exact h1 (h.symm.trans hDl.1)
  ·rw [hDl.2.1]
   rintro k hk (h | rfl)
   ·exact (ha.offO _ h).2 hk
   ·exact h2 hk
def Rp.Grew (R R' : Rp) (w : World) : Prop := R'.rb = R.rb ∧ R'.D = R.D ∧ ∀ k ∈ R'.t.blocks, k ∈ R.t.blocks ∨ w.heap.size ≤ k
theorem Rp.Grew.all {R R' : Rp} {w : World} (h : R.Grew R' w) : ∀ k ∈ R'.all, k ∈ R.all ∨ w.heap.size ≤ k := by
 intro k hk
 rcases List.mem_cons.1 hk with rfl | hk
 ·exact .inl (by rw [h.1]; exact List.mem_cons_self ..)
 ·exact (h.2.2 k hk).imp (fun h => List.mem_cons_of_mem _ h) id
theorem Apart.grew {w : World} {R R' O : Rp} (ha : Apart R O) (hg : R.Grew R' w) (hO : RopeAt w O) : Apart R' O := by
 have hl := hO.lt
 have hd := hO.dlt
 refine ⟨fun k hk hk2 => ?_, by rw [hg.2.1]; exact ha.offR, fun k hk => ?_, by rw [hg.2.1]; exact ha.dice⟩
 ·rcases hg.all k hk with h | h
  ·exact ha.blocks k h hk2
  ·have := hl k hk2; omega
 ·rcases hg.all k hk with h | h
  ·exact ha.offO k h
  ·exact ⟨fun e => by omega, fun e => by have := hd.2 k e; omega⟩
theorem Rp.Grew.foot {R R' : Rp} {w : World} (h : R.Grew R' w) : ∀ k, k < w.heap.size → R'.Foot k → R.Foot k := by
 rintro k hk (h1 | h1)
 ·rcases h.all k h1 with h2 | h2
  ·exact .inl h2
  ·omega
 ·exact .inr (by rw [h1, h.2.1])
theorem Rp.Grew.refl (R : Rp) (w : World) : R.Grew R w := ⟨rfl, rfl, fun _ h => .inl h⟩
theorem Rp.Grew.trans {R R' R'' : Rp} {w w' : World} (h : R.Grew R' w) (k : R'.Grew R'' w') (hs : w.heap.size ≤ w'.heap.size) : R.Grew R'' w :=
 ⟨k.1.trans h.1, k.2.1.trans h.2.1, fun x hx => (k.2.2 x hx).elim (h.2.2 x) (fun h2 => .inr (Nat.le_trans hs h2))⟩
structure Done (R R' : Rp) (s : List UInt8) (w w' : World) : Prop where
 rope : RopeAt w' R'
 text : R'.text = s
 grew : R.Grew R' w
 mod : Mod R.Foot w w'
theorem Done.trans {R R' R'' : Rp} {s s' : List UInt8} {w w' w'' : World} (h : Done R R' s w w') (k : Done R' R'' s' w' w'') : Done R R'' s' w w'' :=
 ⟨k.rope, k.text, h.grew.trans k.grew h.mod.size, Mod.trans h.mod k.mod (fun i hi hf => h.grew.foot i hi hf)⟩
theorem Done.ext {R R' : Rp} {s : List UInt8} {w w' w'' : World} (h : Done R R' s w w') (k : Ext w' w'') : Done R R' s w w'' :=
 ⟨h.rope.ext k, h.text, h.grew, Mod.trans h.mod k (fun _ _ f => f.elim)⟩
theorem Done.refl {R : Rp} {w : World} (h : RopeAt w R) : Done R R R.text w w := ⟨h, rfl, Rp.Grew.refl R w, Mod.refl _ w⟩
theorem Done.after {R R' : Rp} {s : List UInt8} {w w' w'' : World} (k : Ext w w') (h : Done R R' s w' w'') : Done R R' s w w'' :=
 ⟨h.rope, h.text, ⟨h.grew.1, h.grew.2.1, fun x hx => (h.grew.2.2 x hx).imp id (fun h2 => Nat.le_trans k.size h2)⟩, Mod.trans (k.any) h.mod (fun _ _ f => f)⟩
theorem RopeAt.cells {w : World} {R : Rp} (h : RopeAt w R) : w.cell? ⟨R.rb, 0, none⟩ = some (.pointer (some ⟨R.D.d, 0, none⟩)) ∧ w.cell? ⟨R.rb, 1, none⟩ = some (.pointer R.t.addr) ∧ w.frozen? ⟨R.rb, 1, none⟩ = false ∧ R.rb < w.heap.size :=
 ⟨h.blk.cell 0, h.blk.cell 1, h.blk.free 1, h.blk.lt⟩
theorem len_any (R : Rp) (w : World) (h : RopeAt w R) : Calls Tryz.prog 22 #[.pointer (some ⟨R.rb, 0, none⟩)] w fun e w' => e = .returned (.int .i64 (R.t.size : Nat)) ∧ w' = w := by
 obtain ⟨_, c1, _, hb⟩ := h.cells
 go_enter Tryz.func22, Tryz.ntmps22
 go_wp2_with fail
 refine (size_any R.t _ h.tree).mono ?_
 rintro e w' ⟨rfl, rfl⟩
 go_wp2_with fail
 go_ret
 exact ⟨rfl, rfl⟩
theorem text_rope (R : Rp) (w : World) (h : RopeAt w R) : Calls Tryz.prog 19 #[.pointer (some ⟨R.rb, 0, none⟩)] w fun e w' => e = .returned (.string (bs R.text)) ∧ Ext w w' := by
 obtain ⟨_, c1, _, hb⟩ := h.cells
 have hs := h.size
 have e : cut R.t.text 0 (R.t.size : Int) = R.text := cut_all _
 have E := Lib.hid e
 clear e
 go_enter Tryz.func19, Tryz.ntmps19
 go_wp2_with fail
 refine wp_region_ext_lit (by kernel_rfl) (by kernel_rfl) ?_
 repeat (go_big_quiet_step (first | exact Calls.ext_of_same (size_any R.t _ (h.tree.ext (Mod.of_below (ext_below _ _)))) | exact Calls.ext_of (text_any R.t 0 (R.t.size : Int) _ (h.tree.ext (Mod.of_below (ext_below _ _))) (by omega) (by omega) (by omega) (by omega))))
 refine wpQuiet_nil ?_
 intro we hxe
 go_wp2_with fail
 go_ret
 exact ⟨ret_string (by rw [E.out]), hxe⟩
def risesB (f g : Int) (n : Nat) : Bool := decide (0 ≤ f ∧ f ≤ g ∧ g ≤ n)
theorem rises_out {f g : Int} {n : Nat} (h : risesB f g n = true) : 0 ≤ f ∧ f ≤ g ∧ g ≤ n := by simpa [risesB] using h
theorem rises_of {f g : Int} {n : Nat} (h : 0 ≤ f ∧ f ≤ g ∧ g ≤ n) : risesB f g n = true := by simpa [risesB] using h
theorem rises_not {f g : Int} {n : Nat} (h : ¬ (0 ≤ f ∧ f ≤ g ∧ g ≤ n)) : risesB f g n = false := by
 unfold risesB; exact decide_eq_false h
theorem rises_any (R : Rp) (f g : Int) (w : World) (h : RopeAt w R) : Calls Tryz.prog 77 #[.pointer (some ⟨R.rb, 0, none⟩), .int .i64 f, .int .i64 g] w fun e w' => e = .returned (.bool (risesB f g R.t.size)) ∧ w' = w := by
 obtain ⟨_, c1, _, hb⟩ := h.cells
 by_cases h1 : 0 ≤ f
 ·by_cases h2 : f ≤ g
  ·go_enter Tryz.func77, Tryz.ntmps77
   go_wp2_with fail
   refine (size_any R.t _ h.tree).mono ?_
   rintro e w' ⟨rfl, rfl⟩
   go_wp2_with fail
   go_ret
   exact ⟨ret_bool (by simp [risesB, h1]; omega), rfl⟩
  ·have h2' : decide (f ≤ g) = false := by simpa using h2
   go_enter Tryz.func77, Tryz.ntmps77
   go_wp2_with fail
   go_ret
   exact ⟨ret_bool (rises_not (by omega)).symm, rfl⟩
 ·have h1' : decide (0 ≤ f) = false := by simpa using h1
  go_enter Tryz.func77, Tryz.ntmps77
  go_wp2_with fail
  go_ret
  exact ⟨ret_bool (rises_not (by omega)).symm, rfl⟩
theorem owns_at (t : T) (d i : Nat) (x : Pc) (h : (t.pcs d)[i]? = some x) : t.owns[i]? = some x.own := by
 rw [← pcs_own t d, List.getElem?_map, h]; rfl
theorem owns_len (t : T) : t.owns.length = t.count := by rw [← pcs_own t 0, List.length_map, pcs_len]
theorem WeldIn.drewN {D : Dice} {a b : T} {m : ByteArray} {w : World} (h : WeldIn D a m b w) (n : Nat) : WeldIn D a m b (w.drewN n) :=
 ⟨WeldAt.start (h.start.ta.drewN n) (h.start.tb.drewN n) h.start.nd h.start.ha h.start.hb h.start.la h.start.lb (h.dice.drewN n), h.dice.drewN n, h.off, h.ga, h.gb, h.size⟩
def ReplPost (R : Rp) (s : List UInt8) (w : World) (e : Ending) (w' : World) : Prop := e = .returned (.tuple #[]) ∧ ∃ R', Done R R' s w w'
theorem RopeAt.parts {w w1 w2 : World} {R : Rp} {a r c b : T} (h : RopeAt w R) (hp : Parted R.t a r) (hq : Parted r c b) (ha : TreeAt w1 a) (hm1 : Mod (· ∈ R.t.blocks) w w1) (hb : TreeAt w2 b) (hm2 : Mod (· ∈ r.blocks) w1 w2) (m : ByteArray) (hs : a.size + m.size + b.size ≤ 1000000) :
  ∃ D, Dice.Like D R.D ∧ WeldIn D a m b w2 := by
 obtain ⟨D, hD, hl⟩ := h.dice
 have hperm := replace_blocks hp hq
 have hnd : (a.blocks ++ (c.blocks ++ b.blocks)).Nodup := hperm.nodup_iff.2 (List.nodup_cons.1 h.nd).2
 have hnd2 := List.nodup_append.1 hnd
 have hnd3 := List.nodup_append.1 hnd2.2.1
 have hrm : ∀ k, k ∈ r.blocks → k ∈ c.blocks ++ b.blocks := fun k hk => hq.blocks.mem_iff.2 hk
 have hab : ∀ k, k ∈ a.blocks ++ b.blocks → k ∈ R.t.blocks := fun k hk => hperm.mem_iff.1 ((List.mem_append.1 hk).elim (fun h => List.mem_append_left _ h) (fun h => List.mem_append_right _ (List.mem_append_right _ h)))
 have hoffD : D.Off R.t.blocks := fun k hk => (h.off.like hl) k (List.mem_cons_of_mem _ hk)
 have hD1 := hD.off hoffD hm1
 have hD2 := hD1.off (A := r.blocks) (fun k hk => hoffD k (hp.blocks.mem_iff.1 (List.mem_append_right _ hk))) hm2
 obtain ⟨g1, _, g3⟩ := replace_pcs hp hq h.pcs
 have hhp := hp.heap h.heap
 have hhq := hq.heap hhp.2
 have hlp := hp.le h.heap _ h.le
 have hlq := hq.le hhp.2 _ hlp.2
 refine ⟨D, hl, WeldAt.start (ha.mod hm2 (fun k hk hk2 => hnd2.2.2 k hk k (hrm k hk2) rfl)) hb ?_ hhp.1 hhq.2 hlp.1 hlq.2 hD2, hD2, fun k hk => hoffD k (hab k hk), g1, g3, hs⟩
 exact List.nodup_append.2 ⟨hnd2.1, hnd3.2.1, fun k hk k2 hk2 e => hnd2.2.2 k hk k2 (List.mem_append_right _ hk2) e⟩
theorem RopeAt.rooted {w w2 w3 : World} {R : Rp} {D : Dice} {A : List Nat} {t : T} {s : List UInt8} (h : RopeAt w R) (hm : Mod R.Foot w w2) (hb2 : Blk w2 R.rb 111 #[.pointer (some ⟨R.D.d, 0, none⟩), .pointer R.t.addr]) (hA : ∀ k ∈ A, k ∈ R.t.blocks ∨ w.heap.size ≤ k) (hl : Dice.Like D R.D)
  (hW : WeldAt D A w2 t .nil w3) (hp : Pcs t.owns) (ht : t.text = s) (hs : t.size ≤ 65536) :
  Done R { R with t := t } s w (w3.setCell ⟨R.rb, 1, none⟩ (.pointer t.addr)) := by
 have hrl : R.rb < w.heap.size := h.blk.lt
 have hrt : R.rb ∉ R.t.blocks := (List.nodup_cons.1 h.nd).1
 have hrA : R.rb ∉ A := fun hk => (hA _ hk).elim hrt (fun h => by omega)
 have hrd : R.rb ≠ D.d := by rw [hl.1]; exact (h.off _ (List.mem_cons_self ..)).1
 have htn : ∀ k, k ∈ t.blocks → k ∈ R.t.blocks ∨ w.heap.size ≤ k := fun k hk => by
  rcases hW.old k (List.mem_append_left _ hk) with h1 | h1
  ·exact hA k h1
  ·exact .inr (Nat.le_trans hm.size h1)
 have hrt2 : R.rb ∉ t.blocks := fun hk => (htn _ hk).elim hrt (fun h => by omega)
 have hb3 : Blk w3 R.rb 111 #[.pointer (some ⟨R.D.d, 0, none⟩), .pointer R.t.addr] := hb2.mod hW.mod (fun h => h.elim hrA hrd)
 have hset : Mod (· = R.rb) w3 (w3.setCell ⟨R.rb, 1, none⟩ (.pointer t.addr)) := (Mod.refl (· = R.rb) w3).setCell (p := ⟨R.rb, 1, none⟩) (fun _ => rfl) _
 obtain ⟨D3, hD3, hl3⟩ := hW.dice
 have hdl := h.dlt
 have hl3' : Dice.Like D3 R.D := hl3.trans hl
 have hmod : Mod R.Foot w (w3.setCell ⟨R.rb, 1, none⟩ (.pointer t.addr)) := by
  refine Mod.trans (Mod.trans hm hW.mod (fun k hk h1 => ?_)) hset (fun k hk h1 => .inl (by rw [h1]; exact List.mem_cons_self ..))
  rcases h1 with h1 | h1
  ·rcases hA k h1 with h2 | h2
   ·exact .inl (List.mem_cons_of_mem _ h2)
   ·omega
  ·exact .inr (h1.trans hl.1)
 refine ⟨⟨?_, hW.ta.mod hset (fun k hk e => hrt2 (e ▸ hk)), ?_, hW.ha, hW.la, hp, ⟨D3, hD3.mod hset ?_ ?_, hl3'⟩, ?_, hs⟩, ht, ⟨rfl, rfl, htn⟩, hmod⟩
 ·exact hb3.set 1 _
 ·refine List.nodup_cons.2 ⟨hrt2, ?_⟩
  have := hW.nd
  rwa [show t.blocks ++ T.nil.blocks = t.blocks from List.append_nil _] at this
 ·rw [hl3'.1]; exact fun e => (h.off _ (List.mem_cons_self ..)).1 e.symm
 ·rw [hl3'.2.1]; intro k hk e; exact (h.off _ (List.mem_cons_self ..)).2 (e ▸ hk)
 ·intro k hk
  rcases List.mem_cons.1 hk with rfl | hk
  ·exact h.off _ (List.mem_cons_self ..)
  ·rcases htn k hk with h1 | h1
   ·exact h.off k (List.mem_cons_of_mem _ h1)
   ·exact ⟨fun e => by have := hdl.1; have e2 : k = R.D.d := e; omega, fun e => by have := hdl.2 k e; omega⟩
theorem repl_nothing (R : Rp) (f : Int) (s : ByteArray) (w : World) (h : RopeAt w R) (hs : s.toList.isEmpty = true) (hs2 : s.data.toList = []) :
  Calls Tryz.prog 78 #[.pointer (some ⟨R.rb, 0, none⟩), .int .i64 f, .int .i64 f, .string s] w (ReplPost R (splice R.text f f s.data.toList) w) := by
 have H := Lib.hid hs2
 clear hs2
 go_enter Tryz.func78, Tryz.ntmps78
 go_wp2_with fail
 refine bodyPost_ret (results_none rfl _ _ _) rfl ?_
 refine ⟨rfl, R, ?_⟩
 rw [H.out, splice_none]
 exact Done.refl h
theorem repl_some (R : Rp) (f g : Int) (s : ByteArray) (w : World) (h : RopeAt w R) (h0 : 0 ≤ f) (h1 : f ≤ g) (h2 : g ≤ R.t.size) (hz : (R.t.size : Int) - (g - f) + s.size ≤ 65536) (hn : ((f == g) = false) ∨ (f = g ∧ s.toList.isEmpty = false)) :
  Calls Tryz.prog 78 #[.pointer (some ⟨R.rb, 0, none⟩), .int .i64 f, .int .i64 g, .string s] w (ReplPost R (splice R.text f g s.data.toList) w) := by
 obtain ⟨_, c1, _, hb⟩ := h.cells
 have hsz := h.size
 go_enter Tryz.func78, Tryz.ntmps78
 go_upto_region 0 with fail
 go_cut [1, 20] (fun p q wx => p = .int .i64 f ∧ q = .bool false ∧ w = wx)
 case first =>
  rcases hn with hn | ⟨rfl, hn⟩
  ·go_wp2_with fail
   go_meet
   case rel => exact ⟨rfl, rfl, rfl⟩
  ·go_wp2_with fail
   go_meet
   case rel => exact ⟨rfl, rfl, rfl⟩
 case rest =>
  obtain ⟨rfl, rfl, rfl⟩ := hcut
  clear hn
  go_wp2_with fail
  refine (ends_any R.t f w h.tree (List.nodup_cons.1 h.nd).2 (by omega) h0 (by omega)).mono ?_
  rintro e w1 ⟨a, r, rfl, hP, hE, ha, hr, hm1⟩
  go_wp2_with fail
  refine (size_any a _ ha).mono ?_
  rintro e w' ⟨rfl, rfl⟩
  have hPs := hP.size
  have hE1 := hE.1
  have hrn := (List.nodup_append.1 (hP.blocks.nodup_iff.2 (List.nodup_cons.1 h.nd).2)).2.1
  have HP := Lib.hid hP
  have HE := Lib.hid hE
  have Hm1 := Lib.hid hm1
  clear hP hE hm1 c1
  go_wp2_with fail
  refine (begins_any r _ _ hr hrn (by omega) (by omega) (by omega)).mono ?_
  rintro e w2 ⟨c, b, rfl, hQ, hB, hc, hbb, hm2⟩
  obtain ⟨htx, ht1, ht2⟩ := replace_parts HP.out hQ HE.out hB h1 h2
  have hQs := hQ.size
  have Htx := Lib.hid htx
  have HQ := Lib.hid hQ
  have Hm2 := Lib.hid hm2
  clear hQ hB hm2 htx
  go_wp2_with fail
  refine (size_any c _ hc).mono ?_
  rintro e w3 ⟨rfl, rfl⟩
  go_wp2_with fail
  refine (text_any c 0 (c.size : Int) _ hc (by omega) (by omega) (by omega) (by omega)).mono ?_
  rintro e w4 ⟨rfl, hx4⟩
  rw [show cut c.text 0 (c.size : Int) = c.text from cut_all _]
  obtain ⟨old, ho⟩ : ∃ old, old = bs c.text := ⟨_, rfl⟩
  rw [← ho]
  have hos1 : (old.size : Int) ≤ c.size := by rw [ho]; exact Int.le_refl _
  have hos2 : (c.size : Int) ≤ old.size := by rw [ho]; exact Int.le_refl _
  have Ho := Lib.hid ho
  clear ho
  have hrb : R.rb ∉ R.t.blocks := (List.nodup_cons.1 h.nd).1
  have hmr : Mod (· ∈ R.t.blocks) w w4 := Mod.trans (Mod.trans Hm1.out Hm2.out (fun k _ hk => HP.out.blocks.mem_iff.1 (List.mem_append_right _ hk))) hx4 (fun _ _ f => f.elim)
  have hB4 := h.blk.mod hmr hrb
  have d0 := hB4.cell 0
  have f1 := hB4.free 1
  have d1 := hB4.cell 1
  have hb4 := hB4.lt
  go_wp2_with fail
  have hmid : (old.extract 0 (f.toNat - a.size) ++ s ++ old.extract (g.toNat - a.size) old.size).size = (f.toNat - a.size) + s.size + (c.size - (g.toNat - a.size)) := by
   simp; omega
  have Hmid := Lib.hid hmid
  clear hmid
  have hbb4 := hbb.mod hx4 (fun _ _ f => f)
  obtain ⟨D, hDl, hIn⟩ := h.parts HP.out HQ.out ha Hm1.out hbb4 (Mod.trans Hm2.out hx4 (fun _ _ f => f.elim)) (old.extract 0 (f.toNat - a.size) ++ s ++ old.extract (g.toNat - a.size) old.size) (by rw [Hmid.out]; omega)
  have hA : ∀ k ∈ a.blocks ++ b.blocks, k ∈ R.t.blocks ∨ w.heap.size ≤ k := fun k hk => .inl ((replace_blocks HP.out HQ.out).mem_iff.1 ((List.mem_append.1 hk).elim (fun h => List.mem_append_left _ h) (fun h => List.mem_append_right _ (List.mem_append_right _ h))))
  have hwe := weld_any D a b _ (w4.drewN 1) (hIn.drewN 1)
  rw [hDl.1] at hwe
  have hkeep : ∀ w5 : World, Mod (fun k => k ∈ a.blocks ++ b.blocks ∨ k = D.d) (w4.drewN 1) w5 → w5.cell? ⟨R.rb, 0, none⟩ = some (.pointer (some ⟨R.D.d, 0, none⟩)) ∧ w5.cell? ⟨R.rb, 1, none⟩ = some (.pointer R.t.addr) ∧ w5.frozen? ⟨R.rb, 1, none⟩ = false := fun w5 hm => by
   have hn : ¬ (R.rb ∈ a.blocks ++ b.blocks ∨ R.rb = D.d) := by
    rintro (h1 | h1)
    ·rcases hA _ h1 with h2 | h2
     ·exact hrb h2
     ·have := h.blk.lt; omega
    ·exact (h.off _ (List.mem_cons_self ..)).1 (h1.trans hDl.1)
   exact ⟨(hm.cell (p := ⟨R.rb, 0, none⟩) hb4 hn).trans d0, (hm.cell (p := ⟨R.rb, 1, none⟩) hb4 hn).trans d1, (hm.frozen (p := ⟨R.rb, 1, none⟩) hb4 hn).trans f1⟩
  have Hkeep := Lib.hid hkeep
  have HA := Lib.hid hA
  have HDl := Lib.hid hDl
  have hw1 : IntKind.i64.wrap (f - (a.size : Int)) = f - (a.size : Int) := IntWalk.i64_in _ ⟨by omega, by omega⟩
  have hw2 : IntKind.i64.wrap (g - (a.size : Int)) = g - (a.size : Int) := IntWalk.i64_in _ ⟨by omega, by omega⟩
  have hw3 : 0 ≤ f - (a.size : Int) := by omega
  have hw4 : f - (a.size : Int) ≤ (old.size : Int) := by omega
  have hw5 : 0 ≤ g - (a.size : Int) := by omega
  have hw6 : g - (a.size : Int) ≤ (old.size : Int) := by omega
  have hw7 : (f - (a.size : Int)).toNat = f.toNat - a.size := by omega
  have hw8 : (g - (a.size : Int)).toNat = g.toNat - a.size := by omega
  have hw9 : (a.size : Int) ≤ g := by omega
  have hw10 : ¬ 9223372036854775807 < min (f.toNat - a.size) old.size + s.size := by omega
  have hw11 : ¬ 9223372036854775807 < min (f.toNat - a.size) old.size + s.size + (old.size - (g.toNat - a.size)) := by omega
  clear hkeep hA hDl
  go_region_held3 (fun w5 => w5.cell? ⟨R.rb, 0, none⟩ = some (.pointer (some ⟨R.D.d, 0, none⟩))) (first | exact k0 | (rw [World.cell?_setCell_other _ _ _ _ (by simp)]; first | exact k0 | assumption) | go_keep)
   (first | (go_at_call 71; refine hwe.mono ?_; rintro e w5 ⟨t, rfl, hj, hp5, hW5⟩; obtain ⟨k0, k1, k2⟩ := Hkeep.out _ hW5.mod))
  clear hw1 hw2 hw3 hw4 hw5 hw6 hw7 hw8 hw9 hw10 hw11
  go_end0
  have htl : R.text.length = R.t.size := rfl
  have hal : a.text.length = a.size := rfl
  have hcl : c.text.length = c.size := rfl
  have htext : t.text = splice R.text f g s.data.toList := by
   rw [show R.text = R.t.text from rfl, Htx.out, splice_mid _ _ _ _ _ _ (by rw [hal]; omega) h1 (by rw [hal, hcl]; omega), T.text_owns, hj, ← T.text_owns, ← T.text_owns]
   congr 2
   rw [ByteArray.data_append, ByteArray.data_append, Array.toList_append, Array.toList_append, Ho.out, extract_cut _ _ _ 0 (f - a.text.length) (by omega) (by rw [hal]; omega), extract_cut _ _ _ (g - a.text.length) c.text.length (by rw [hal]; omega) (by rw [bs_size]; omega), bs_toList, List.append_assoc]
  refine ⟨rfl, _, h.rooted (hmr.drewN 1 |>.mono (fun k _ hk => .inl (List.mem_cons_of_mem _ hk))) (hB4.drewN 1) HA.out HDl.out hW5 hp5 htext ?_⟩
  have hl := splice_len R.text f g s.data.toList h0 h1 (by rw [htl]; exact h2)
  rw [← htext, htl, toList_length] at hl
  have : t.text.length = t.size := rfl
  omega
theorem repl_any (R : Rp) (f g : Int) (s : ByteArray) (w : World) (h : RopeAt w R) (h0 : 0 ≤ f) (h1 : f ≤ g) (h2 : g ≤ R.t.size) (hz : (R.t.size : Int) - (g - f) + s.size ≤ 65536) :
  Calls Tryz.prog 78 #[.pointer (some ⟨R.rb, 0, none⟩), .int .i64 f, .int .i64 g, .string s] w (ReplPost R (splice R.text f g s.data.toList) w) := by
 by_cases hfg : f = g
 ·subst hfg
  by_cases hs : s.data.toList = []
  ·exact repl_nothing R f s w h (by rw [ByteArray.toList_eq, hs]; rfl) hs
  ·exact repl_some R f f s w h h0 h1 h2 hz (.inr ⟨rfl, by rw [ByteArray.toList_eq]; simpa using hs⟩)
 ·exact repl_some R f g s w h h0 h1 h2 hz (.inl (by simpa using hfg))
end Go.Proofs.YthlmgoagnfkhdaaGreat
namespace Go.Proofs.YthlmgoagnfkhdaaGreat
open Go.RowKit Go.Gim Go.Lib
def DiceOf (w : World) (D : Dice) : Prop := ∃ D', DiceAt w D' ∧ Dice.Like D' D
theorem DiceOf.ext {w w' : World} {D : Dice} (h : DiceOf w D) (hm : Ext w w') : DiceOf w' D := let ⟨D', h1, h2⟩ := h; ⟨D', h1.ext hm, h2⟩
structure Fresh (R : Rp) (D : Dice) (s : List UInt8) (w w' : World) : Prop where
 rope : RopeAt w' R
 dice : R.D = D
 text : R.text = s
 new : ∀ k ∈ R.all, w.heap.size ≤ k
 mod : Mod (· = D.d) w w'
theorem Fresh.after {R : Rp} {D : Dice} {s : List UInt8} {w w' w'' : World} (k : Ext w w') (h : Fresh R D s w' w'') : Fresh R D s w w'' :=
 ⟨h.rope, h.dice, h.text, fun x hx => Nat.le_trans k.size (h.new x hx), Mod.trans k.any h.mod (fun _ _ f => f)⟩
theorem Fresh.ext {R : Rp} {D : Dice} {s : List UInt8} {w w' w'' : World} (h : Fresh R D s w w') (k : Ext w' w'') : Fresh R D s w w'' :=
 ⟨h.rope.ext k, h.dice, h.text, h.new, Mod.trans h.mod k (fun _ _ f => f.elim)⟩
theorem Fresh.done {R R' : Rp} {D : Dice} {s s' : List UInt8} {w w' w'' : World} (h : Fresh R D s w w') (k : Done R R' s' w' w'') : Fresh R' D s' w w'' :=
 ⟨k.rope, k.grew.2.1.trans h.dice, k.text, fun x hx => (k.grew.all x hx).elim (h.new x) (fun h2 => Nat.le_trans h.mod.size h2), Mod.trans h.mod k.mod (fun i hi hf => by
  rcases hf with hf | hf
  ·have := h.new i hf; omega
  ·rw [hf, h.dice])⟩
theorem Fresh.apart {R O : Rp} {D : Dice} {s : List UInt8} {w w' : World} (h : Fresh R D s w w') (hO : RopeAt w O) (hOD : D.Off O.all) (hd : Dice.Like O.D D ∨ (O.D.d ≠ D.d ∧ D.sv.ownBlock ≠ some O.D.d ∧ O.D.sv.ownBlock ≠ some D.d)) : Apart O R := by
 have hl := hO.lt
 have hdl := hO.dlt
 refine ⟨fun k hk hk2 => ?_, fun k hk => ⟨fun e => ?_, fun e => ?_⟩, by rw [h.dice]; exact hOD, by rw [h.dice]; exact hd⟩
 ·have := hl k hk; have := h.new k hk2; omega
 ·have := h.new k hk; have := hdl.1; omega
 ·have := h.new k hk; have := hdl.2 k e; omega
theorem Fresh.old {R O : Rp} {D : Dice} {s : List UInt8} {w w' : World} (h : Fresh R D s w w') (hO : RopeAt w O) (hOD : D.Off O.all) (hd : Dice.Like O.D D ∨ (O.D.d ≠ D.d ∧ D.sv.ownBlock ≠ some O.D.d ∧ O.D.sv.ownBlock ≠ some D.d)) : RopeAt w' O := by
 refine hO.mod h.mod (fun k hk e => (hOD k hk).1 e) ?_
 rcases hd with hl | ⟨h1, h2, h3⟩
 ·obtain ⟨D', h4, h5⟩ := h.rope.dice
  rw [h.dice] at h5
  exact ⟨D', h4, h5.trans hl.symm⟩
 ·obtain ⟨D', h4, h5⟩ := hO.dice
  exact ⟨D', h4.mod h.mod (fun e => h1 (h5.1.symm.trans e)) (fun k hk e => h3 (by rw [← h5.2.1, hk, e])), h5⟩
theorem RopeAt.empty {w : World} {D : Dice} (hD : DiceOf w D) : RopeAt (w.alloc (.cells #[.pointer (some ⟨D.d, 0, none⟩), .pointer none] 111)) ⟨w.heap.size, D, .nil⟩ := by
 obtain ⟨D', h1, h2⟩ := hD
 have hl := h1.lt
 rw [h2.1, h2.2.1] at hl
 refine ⟨Blk.new _ _ _, trivial, by simp [Rp.all, T.blocks], trivial, trivial, good_nil, ⟨D', h1.ext ((Mod.refl _ w).alloc _), h2⟩, ?_, by simp [T.size, T.text]⟩
 intro k hk
 simp [Rp.all, T.blocks] at hk
 subst hk
 exact ⟨fun e => by have := hl.1; simp at e; omega, fun e => by have := hl.2 _ e; omega⟩
theorem weld_one {w : World} {D : Dice} (m : ByteArray) (hD : DiceOf w D) (hs : m.size ≤ 1000000) :
  Calls Tryz.prog 71 #[.pointer (some ⟨D.d, 0, none⟩), .pointer none, .string m, .pointer none] w fun e w' =>
   ∃ t D', Dice.Like D' D ∧ e = .returned (.pointer t.addr) ∧ t.text = m.data.toList ∧ Pcs t.owns ∧ WeldAt D' [] w t .nil w' := by
 obtain ⟨D', h1, h2⟩ := hD
 have hI : WeldIn D' .nil m .nil w := ⟨WeldAt.start (a := .nil) (b := .nil) trivial trivial (by simp [T.blocks]) trivial trivial trivial trivial h1, h1, fun k hk => by simp [T.blocks] at hk, good_nil, good_nil, by simp [T.size, T.text]; omega⟩
 rw [← h2.1]
 refine (weld_any D' .nil .nil m w hI).mono ?_
 rintro e w' ⟨t, rfl, hj, hp, hW⟩
 refine ⟨t, D', h2, rfl, ?_, hp, hW⟩
 rw [T.text_owns, hj]; simp [T.owns, join]
def NewPost (D : Dice) (ps : List ByteArray) (w : World) (e : Ending) (w' : World) : Prop :=
 ((join ps).length ≤ 65536 → ∃ R, e = .returned (.tuple #[.pointer (some ⟨R.rb, 0, none⟩), .int .i64 0]) ∧ Fresh R D (join ps) w w') ∧
 (65536 < (join ps).length → e = .returned (.tuple #[.pointer none, .int .i64 4]) ∧ Ext w w')
theorem join_take_succ (ps : List ByteArray) (k : Nat) (hk : k < ps.length) : join (ps.take (k + 1)) = join (ps.take k) ++ ps[k].data.toList := by
 rw [List.take_succ_eq_append_getElem hk, join_append]; simp [join]
theorem join_take_le (ps : List ByteArray) (k : Nat) : (join (ps.take k)).length ≤ (join ps).length := by
 have : join ps = join (ps.take k) ++ join (ps.drop k) := by rw [← join_append, List.take_append_drop]
 rw [this, List.length_append]; omega
def NewAt (ps : List ByteArray) (w : World) (k : Nat) (v : Value) (wr : World) : Prop :=
 k ≤ ps.length ∧ (join (ps.take k)).length ≤ 65536 ∧ RowB w.heap.size (join (ps.take k)) v wr ∧ Mod (w.heap.size ≤ ·) w wr
theorem new_end {w wr : World} {D : Dice} {ps : List ByteArray} {v : Value} (hN : NewAt ps w ps.length v wr) (hD : DiceOf w D) :
  (join ps).length ≤ 65536 ∧ RowB w.heap.size (join ps) v (wr.alloc (.cells #[.pointer (some ⟨D.d, 0, none⟩), .pointer none] 111)) ∧ DiceOf (wr.alloc (.cells #[.pointer (some ⟨D.d, 0, none⟩), .pointer none] 111)) D ∧
  RopeAt (wr.alloc (.cells #[.pointer (some ⟨D.d, 0, none⟩), .pointer none] 111)) ⟨wr.heap.size, D, .nil⟩ ∧ Ext w wr := by
 obtain ⟨_, h1, h2, h3⟩ := hN
 rw [List.take_length] at h1 h2
 have hx : Ext w wr := ⟨h3.os, h3.tape, h3.output, h3.size, fun k hk _ => h3.block k hk (Nat.not_le.2 hk)⟩
 exact ⟨h1, h2.later ((Mod.refl _ wr).alloc _), (hD.ext hx).ext ((Mod.refl _ wr).alloc _), RopeAt.empty (hD.ext hx), hx⟩
theorem new_some (D : Dice) (b off cap : Nat) (ps : List ByteArray) (w : World) (hD : DiceOf w D) (hr : Reads w 1 (some ⟨b, off, none⟩) ps.length (ps.map Value.string)) (hn : ps.length ≤ 1000) (h0 : 0 < ps.length) :
  Calls Tryz.prog 43 #[.pointer (some ⟨D.d, 0, none⟩), .slice (some ⟨b, off, none⟩) ps.length cap] w (NewPost D ps w) := by
 have hbl : b < w.heap.size := World.block_lt_of_cell? w _ (hr.at (j := 0) (v := .string ps[0]) (by simp [h0]))
 go_enter Tryz.func43, Tryz.ntmps43
 go_wp2_with fail
 go_loopw [6, 14] (fun p q wr => ∃ k : Nat, ∃ v : Value, q = .int .i64 k ∧ v = p ∧ Hid (NewAt ps w k v wr)) (fun _ q _ => ps.length - (intOf q).toNat)
 case atStart => exact ⟨0, _, rfl, rfl, Lib.hid ⟨by omega, by simp [join], RowB.nil w, Mod.refl _ _⟩⟩
 case round =>
  obtain ⟨k, v, rfl, rfl, HN⟩ := hrel
  by_cases hk : k < ps.length
  ·have hk' : (k : Int) < (ps.length : Int) := by omega
   obtain ⟨_, h1, h2, h3⟩ := HN.out
   have hc : wr.cell? ⟨b, off + k, none⟩ = some (.string ps[k]) := by
    rw [h3.cell (p := ⟨b, off + k, none⟩) hbl (Nat.not_le.2 hbl)]
    exact hr.at (by simp [hk])
   obtain ⟨ao, cp, hv, hcp, _⟩ := ownsRow_shape h2.2
   have hjs := join_take_succ ps k hk
   have hjl := join_take_le ps (k + 1)
   rw [hjs, List.length_append, toList_length] at hjl
   have Hjs := Lib.hid hjs
   clear hjs
   generalize hsk : ps[k] = s at *
   generalize hL : join (ps.take k) = L at *
   have HL := Lib.hid hL
   have Hsk := Lib.hid hsk
   clear hL hsk
   have Hv := Lib.hid hv
   clear h3
   rw [hv] at h2 ⊢
   clear hv
   by_cases hs : (65536 : Int) - (L.length : Int) < (s.size : Int)
   ·go_wp2_with fail
    go_ret2
    have h4 := HN.out.2.2.2
    exact ⟨fun h => absurd h (by omega), fun _ => ⟨rfl, h4.os, h4.tape, h4.output, h4.size, fun k hk _ => h4.block k hk (Nat.not_le.2 hk)⟩⟩
   ·go_wp2_with (at_builtin; refine wpList_append_rowB rfl _ _ rfl w.heap.size L _ rfl h2 _ rfl ?h63 ?_)
    case h63 => omega
    intro v2 w2 k1 k2
    have K1 := Lib.hid k1
    clear k1
    go_wp2_with fail
    go_roundw
    case rel =>
     refine ⟨k + 1, v2, by go_num, rfl, Lib.hid ⟨by omega, ?_, ?_, Mod.trans HN.out.2.2.2 k2 (fun _ _ h => h)⟩⟩
     ·rw [Hjs.out, List.length_append, toList_length]; omega
     ·rw [Hjs.out]; exact K1.out
    case measure => simp [intOf]; omega
  ·have hk' : ¬ (k : Int) < (ps.length : Int) := by omega
   obtain rfl : k = ps.length := by have := HN.out.1; omega
   obtain ⟨h1, h2, h3, h4, h5⟩ := new_end HN.out hD
   have hcv := h2.convert
   clear h2
   go_wp2_with fail
   have hbs : (bs (join ps)).size = (join ps).length := rfl
   refine (weld_one (D := D) (bs (join ps)) h3 (by omega)).mono ?_
   rintro e w2 ⟨t, D', hl, rfl, ht, hp, hW⟩
   have hne : ¬ (wr.heap.size ∈ ([] : List Nat) ∨ wr.heap.size = D'.d) := by
    rintro (h | h)
    ·cases h
    ·exact (h4.off _ (List.mem_cons_self ..)).1 (h.trans hl.1)
   have hb2 := h4.blk.mod hW.mod hne
   have e1 := hb2.cell 1
   have f1 := hb2.free 1
   have hlt := hb2.lt
   simp only at e1 f1 hlt
   have hts : t.size = (join ps).length := by rw [T.size, ht]; rfl
   have hf0 : Fresh ⟨wr.heap.size, D, .nil⟩ D [] w (wr.alloc (.cells #[.pointer (some ⟨D.d, 0, none⟩), .pointer none] 111)) :=
    ⟨h4, rfl, rfl, fun k hk => (by simp [Rp.all, T.blocks] at hk; subst hk; exact h5.size), (h5.alloc _).any⟩
   have hd := h4.rooted (Mod.refl _ _) h4.blk (A := []) (fun k hk => by cases hk) hl hW hp (s := join ps) (by rw [ht]; rfl) (by omega)
   have HF := Lib.hid (hf0.done hd)
   have H1 := Lib.hid h1
   clear hf0 hd hts hbs ht hp hW hb2 h3 h4 h5 hcv h1
   go_wp2_with fail
   go_ret2
   exact ⟨fun _ => ⟨_, rfl, HF.out⟩, fun h => absurd H1.out (Nat.not_le.2 h)⟩
theorem new_empty (D : Dice) (ao : Option Addr) (cap : Nat) (w : World) (hD : DiceOf w D) :
  Calls Tryz.prog 43 #[.pointer (some ⟨D.d, 0, none⟩), .slice ao 0 cap] w (NewPost D [] w) := by
 have hN : NewAt [] w ([] : List ByteArray).length (.slice none 0 0) w := ⟨by simp, by simp [join], RowB.nil w, Mod.refl _ _⟩
 go_enter Tryz.func43, Tryz.ntmps43
 go_wp2_with fail
 refine wp_loop_rounds 1 ?_
 rw [rounds_succ]
 obtain ⟨h1, h2, h3, h4, h5⟩ := new_end hN hD
 have hcv := h2.convert
 clear h2
 go_wp2_with fail
 have hbs : (bs (join [])).size = 0 := rfl
 refine (weld_one (D := D) (bs (join [])) h3 (by omega)).mono ?_
 rintro e w2 ⟨t, D', hl, rfl, ht, hp, hW⟩
 have hne : ¬ (w.heap.size ∈ ([] : List Nat) ∨ w.heap.size = D'.d) := by
  rintro (h | h)
  ·cases h
  ·exact (h4.off _ (List.mem_cons_self ..)).1 (h.trans hl.1)
 have hb2 := h4.blk.mod hW.mod hne
 have e1 := hb2.cell 1
 have f1 := hb2.free 1
 have hlt := hb2.lt
 simp only at e1 f1 hlt
 have hts : t.size = 0 := by rw [T.size, ht]; rfl
 have hf0 : Fresh ⟨w.heap.size, D, .nil⟩ D [] w (w.alloc (.cells #[.pointer (some ⟨D.d, 0, none⟩), .pointer none] 111)) :=
  ⟨h4, rfl, rfl, fun k hk => (by simp [Rp.all, T.blocks] at hk; subst hk; exact h5.size), (h5.alloc _).any⟩
 have hd := h4.rooted (Mod.refl _ _) h4.blk (A := []) (fun k hk => by cases hk) hl hW hp (s := join []) (by rw [ht]; rfl) (by omega)
 have HF := Lib.hid (hf0.done hd)
 have H1 := Lib.hid h1
 clear hf0 hd hts hbs ht hp hW hb2 h3 h4 h5 hcv h1 hN
 go_wp2_with fail
 go_ret2
 exact ⟨fun _ => ⟨_, rfl, HF.out⟩, fun h => absurd H1.out (Nat.not_le.2 h)⟩
theorem rope_new (D : Dice) (ao : Option Addr) (cap : Nat) (ps : List ByteArray) (w : World) (hD : DiceOf w D) (hr : Reads w 1 ao ps.length (ps.map Value.string)) (hn : ps.length ≤ 1000) :
  Calls Tryz.prog 43 #[.pointer (some ⟨D.d, 0, none⟩), .slice ao ps.length cap] w (NewPost D ps w) := by
 by_cases h0 : 0 < ps.length
 ·obtain ⟨b, off, rfl⟩ := hr.some h0
  exact new_some D b off cap ps w hD hr hn h0
 ·obtain rfl : ps = [] := List.length_eq_zero_iff.1 (by omega)
  exact new_empty D ao cap w hD
end Go.Proofs.YthlmgoagnfkhdaaGreat
namespace Go.Proofs.YthlmgoagnfkhdaaGreat
open Go.RowKit Go.Gim
def DonePost (R : Rp) (s : List UInt8) (w : World) (e : Ending) (w' : World) : Prop := e = .returned (.int .i64 0) ∧ ∃ R', Done R R' s w w'
theorem insert_yes (R : Rp) (f : Int) (s : ByteArray) (w : World) (h : RopeAt w R) (hn : risesB f f R.t.size = true) (hs : R.t.size + s.size ≤ 65536) : Calls Tryz.prog 50 #[.pointer (some ⟨R.rb, 0, none⟩), .int .i64 f, .string s] w (DonePost R (splice R.text f f s.data.toList) w) := by
 obtain ⟨_, c1, _, hb⟩ := h.cells
 have hsz := h.size
 obtain ⟨g1, g2, g3⟩ := rises_out hn
 have hr := rises_any R f f w h
 rw [hn] at hr
 have hs' : ¬ (65536 : Int) - (R.t.size : Int) < (s.size : Int) := by omega
 clear hn
 go_enter Tryz.func50, Tryz.ntmps50
 go_wp2_with fail
 refine hr.mono ?_
 rintro e w' ⟨rfl, rfl⟩
 go_wp2_with fail
 refine (size_any R.t _ h.tree).mono ?_
 rintro e w1 ⟨rfl, rfl⟩
 go_wp2_with fail
 refine (repl_any R f f s _ h g1 g2 g3 (by omega)).mono ?_
 rintro e w2 ⟨rfl, R', hd⟩
 have Hd := Lib.hid hd
 clear hd
 go_wp2_with fail
 go_ret
 exact ⟨rfl, R', Hd.out⟩
theorem delete_yes (R : Rp) (f g : Int) (w : World) (h : RopeAt w R) (hn : risesB f g R.t.size = true) : Calls Tryz.prog 49 #[.pointer (some ⟨R.rb, 0, none⟩), .int .i64 f, .int .i64 g] w (DonePost R (splice R.text f g []) w) := by
 obtain ⟨_, c1, _, hb⟩ := h.cells
 have hsz := h.size
 obtain ⟨g1, g2, g3⟩ := rises_out hn
 have hr := rises_any R f g w h
 rw [hn] at hr
 clear hn
 go_enter Tryz.func49, Tryz.ntmps49
 go_wp2_with fail
 refine hr.mono ?_
 rintro e w' ⟨rfl, rfl⟩
 go_wp2_with fail
 refine (repl_any R f g ⟨#[]⟩ _ h g1 g2 g3 (by have : (⟨#[]⟩ : ByteArray).size = 0 := rfl; omega)).mono ?_
 rintro e w2 ⟨rfl, R', hd⟩
 have Hd := Lib.hid hd
 clear hd
 go_wp2_with fail
 go_ret
 exact ⟨rfl, R', Hd.out⟩
theorem NewDice.of {zs : List Int} {w w' : World} {e : Ending} (h : NewDice zs w e w') : ∃ D : Dice, e = .returned (.pointer (some ⟨D.d, 0, none⟩)) ∧ DiceAt w' D ∧ D.nums = zs ∧ Ext w w' ∧ w.heap.size ≤ D.d ∧ (∀ k, D.sv.ownBlock = some k → w.heap.size ≤ k) := by
 obtain ⟨d, sv, rfl, h1, h2, h3, h4⟩ := h
 exact ⟨_, rfl, h1, rfl, h2, h3, h4⟩
theorem DiceAt.of {w : World} {D : Dice} (h : DiceAt w D) : DiceOf w D := ⟨D, h, .refl D⟩
structure Rp.New (R : Rp) (w : World) : Prop where
 all : ∀ k ∈ R.all, w.heap.size ≤ k
 dice : w.heap.size ≤ R.D.d
theorem Fresh.base {R : Rp} {D : Dice} {s : List UInt8} {w w1 w2 : World} (h : Fresh R D s w1 w2) (hx : Ext w w1) (hd : w.heap.size ≤ D.d) : Ext w w2 ∧ R.New w :=
 ⟨Mod.trans hx h.mod (fun i hi e => by have : i = D.d := e; omega), fun k hk => Nat.le_trans hx.size (h.new k hk), by rw [h.dice]; exact hd⟩
theorem Done.base {R R' : Rp} {s : List UInt8} {w w1 w2 : World} (h : Done R R' s w1 w2) (hx : Ext w w1) (hn : R.New w) : Ext w w2 ∧ R'.New w :=
 ⟨Mod.trans hx h.mod (fun i hi e => by
  rcases e with e | e
  ·have := hn.all i e; omega
  ·have := hn.dice; omega), fun k hk => (h.grew.all k hk).elim (hn.all k) (fun h2 => Nat.le_trans hx.size h2), by rw [h.grew.2.1]; exact hn.dice⟩
end Go.Proofs.YthlmgoagnfkhdaaGreat
namespace Go.Proofs.YthlmgoagnfkhdaaGreat
open Go.RowKit Go.Gim Go.Lib
structure Joined (R O R' : Rp) (w w' : World) : Prop where
 rope : RopeAt w' R'
 text : R'.text = R.text ++ O.text
 rb : R'.rb = R.rb
 dice : R'.D = R.D
 other : RopeAt w' { O with t := .nil }
 old : ∀ k ∈ R'.t.blocks, k ∈ R.t.blocks ∨ k ∈ O.t.blocks ∨ w.heap.size ≤ k
 mod : Mod (fun k => R.Foot k ∨ k ∈ O.all) w w'
structure CutTo (R R' O : Rp) (s s' : List UInt8) (w w' : World) : Prop where
 rope : RopeAt w' R'
 other : RopeAt w' O
 text : R'.text = s
 rest : O.text = s'
 grew : R.Grew R' w
 odice : O.D = R.D
 onew : w.heap.size ≤ O.rb ∧ ∀ k ∈ O.t.blocks, k ∈ R.t.blocks ∨ w.heap.size ≤ k
 apart : Apart R' O
 mod : Mod R.Foot w w'
end Go.Proofs.YthlmgoagnfkhdaaGreat

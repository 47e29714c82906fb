/- What rope's replace computes. Conditions: a rope of at most 65536 bytes before and behind it. -/
import Derived.Test.YtbcjlbapgidhiaaGimRope1
import Derived.Test.YtbcjlbapgidhiaaGimReplP
import Derived.Test.YtbcjlbapgidhiaaGimWeldG
import Derived.Deep.RegionHeld3
namespace Go.Proofs.Ytbcjlbapgidhiaa
open Go.RowKit Go.Gim

theorem WeldIn.drewN {D : Dice} {a b : T} {m : ByteArray} {w : World} (h : WeldIn D a m b w) (n : Nat) : WeldIn D a m b (w.drewN n) :=
  ⟨WeldAt.start (h.start.ta.drewN n) (h.start.tb.drewN n) h.start.nd h.start.ha h.start.hb h.start.la h.start.lb (h.dice.drewN n), h.dice.drewN n, h.off, h.ga, h.gb, h.size⟩

def ReplPost (R : Rp) (s : List UInt8) (w : World) (e : Ending) (w' : World) : Prop := e = .returned (.tuple #[]) ∧ ∃ R', Done R R' s w w'

/-- What weld asks, of trees that replace has parted. -/
theorem RopeAt.parts {w w1 w2 : World} {R : Rp} {a r c b : T} (h : RopeAt w R) (hp : Parted R.t a r) (hq : Parted r c b) (ha : TreeAt w1 a) (hm1 : Mod (· ∈ R.t.blocks) w w1) (hb : TreeAt w2 b) (hm2 : Mod (· ∈ r.blocks) w1 w2) (m : ByteArray) (hs : a.size + m.size + b.size ≤ 1000000) :
    ∃ D, Dice.Like D R.D ∧ WeldIn D a m b w2 := by
  obtain ⟨D, hD, hl⟩ := h.dice
  have hperm := replace_blocks hp hq
  have hnd : (a.blocks ++ (c.blocks ++ b.blocks)).Nodup := hperm.nodup_iff.2 (List.nodup_cons.1 h.nd).2
  have hnd2 := List.nodup_append.1 hnd
  have hnd3 := List.nodup_append.1 hnd2.2.1
  have hrm : ∀ k, k ∈ r.blocks → k ∈ c.blocks ++ b.blocks := fun k hk => hq.blocks.mem_iff.2 hk
  have hab : ∀ k, k ∈ a.blocks ++ b.blocks → k ∈ R.t.blocks := fun k hk => hperm.mem_iff.1 ((List.mem_append.1 hk).elim (fun h => List.mem_append_left _ h) (fun h => List.mem_append_right _ (List.mem_append_right _ h)))
  have hoffD : D.Off R.t.blocks := fun k hk => (h.off.like hl) k (List.mem_cons_of_mem _ hk)
  have hD1 := hD.off hoffD hm1
  have hD2 := hD1.off (A := r.blocks) (fun k hk => hoffD k (hp.blocks.mem_iff.1 (List.mem_append_right _ hk))) hm2
  obtain ⟨g1, _, g3⟩ := replace_pcs hp hq h.pcs
  have hhp := hp.heap h.heap
  have hhq := hq.heap hhp.2
  have hlp := hp.le h.heap _ h.le
  have hlq := hq.le hhp.2 _ hlp.2
  refine ⟨D, hl, WeldAt.start (ha.mod hm2 (fun k hk hk2 => hnd2.2.2 k hk k (hrm k hk2) rfl)) hb ?_ hhp.1 hhq.2 hlp.1 hlq.2 hD2, hD2, fun k hk => hoffD k (hab k hk), g1, g3, hs⟩
  exact List.nodup_append.2 ⟨hnd2.1, hnd3.2.1, fun k hk k2 hk2 e => hnd2.2.2 k hk k2 (List.mem_append_right _ hk2) e⟩

/-- The rope behind weld and the store of its new root. -/
theorem RopeAt.rooted {w w2 w3 : World} {R : Rp} {D : Dice} {A : List Nat} {t : T} {s : List UInt8} (h : RopeAt w R) (hm : Mod R.Foot w w2) (hb2 : Blk w2 R.rb 92 #[.pointer (some ⟨R.D.d, 0, none⟩), .pointer R.t.addr]) (hA : ∀ k ∈ A, k ∈ R.t.blocks ∨ w.heap.size ≤ k) (hl : Dice.Like D R.D)
    (hW : WeldAt D A w2 t .nil w3) (hp : Pcs t.owns) (ht : t.text = s) (hs : t.size ≤ 65536) :
    Done R { R with t := t } s w (w3.setCell ⟨R.rb, 1, none⟩ (.pointer t.addr)) := by
  have hrl : R.rb < w.heap.size := h.blk.lt
  have hrt : R.rb ∉ R.t.blocks := (List.nodup_cons.1 h.nd).1
  have hrA : R.rb ∉ A := fun hk => (hA _ hk).elim hrt (fun h => by omega)
  have hrd : R.rb ≠ D.d := by rw [hl.1]; exact (h.off _ (List.mem_cons_self ..)).1
  have htn : ∀ k, k ∈ t.blocks → k ∈ R.t.blocks ∨ w.heap.size ≤ k := fun k hk => by
    rcases hW.old k (List.mem_append_left _ hk) with h1 | h1
    · exact hA k h1
    · exact .inr (Nat.le_trans hm.size h1)
  have hrt2 : R.rb ∉ t.blocks := fun hk => (htn _ hk).elim hrt (fun h => by omega)
  have hb3 : Blk w3 R.rb 92 #[.pointer (some ⟨R.D.d, 0, none⟩), .pointer R.t.addr] := hb2.mod hW.mod (fun h => h.elim hrA hrd)
  have hset : Mod (· = R.rb) w3 (w3.setCell ⟨R.rb, 1, none⟩ (.pointer t.addr)) := (Mod.refl (· = R.rb) w3).setCell (p := ⟨R.rb, 1, none⟩) (fun _ => rfl) _
  obtain ⟨D3, hD3, hl3⟩ := hW.dice
  have hdl := h.dlt
  have hl3' : Dice.Like D3 R.D := hl3.trans hl
  have hmod : Mod R.Foot w (w3.setCell ⟨R.rb, 1, none⟩ (.pointer t.addr)) := by
    refine Mod.trans (Mod.trans hm hW.mod (fun k hk h1 => ?_)) hset (fun k hk h1 => .inl (by rw [h1]; exact List.mem_cons_self ..))
    rcases h1 with h1 | h1
    · rcases hA k h1 with h2 | h2
      · exact .inl (List.mem_cons_of_mem _ h2)
      · omega
    · exact .inr (h1.trans hl.1)
  refine ⟨⟨?_, hW.ta.mod hset (fun k hk e => hrt2 (e ▸ hk)), ?_, hW.ha, hW.la, hp, ⟨D3, hD3.mod hset ?_ ?_, hl3'⟩, ?_, hs⟩, ht, ⟨rfl, rfl, htn⟩, hmod⟩
  · exact hb3.set 1 _
  · refine List.nodup_cons.2 ⟨hrt2, ?_⟩
    have := hW.nd
    rwa [show t.blocks ++ T.nil.blocks = t.blocks from List.append_nil _] at this
  · rw [hl3'.1]; exact fun e => (h.off _ (List.mem_cons_self ..)).1 e.symm
  · rw [hl3'.2.1]; intro k hk e; exact (h.off _ (List.mem_cons_self ..)).2 (e ▸ hk)
  · intro k hk
    rcases List.mem_cons.1 hk with rfl | hk
    · exact h.off _ (List.mem_cons_self ..)
    · rcases htn k hk with h1 | h1
      · exact h.off k (List.mem_cons_of_mem _ h1)
      · exact ⟨fun e => by have := hdl.1; have e2 : k = R.D.d := e; omega, fun e => by have := hdl.2 k e; omega⟩

set_option maxHeartbeats 800000 in
set_option maxRecDepth 1000000 in
theorem repl_nothing (R : Rp) (f : Int) (s : ByteArray) (w : World) (h : RopeAt w R) (hs : s.toList.isEmpty = true) (hs2 : s.data.toList = []) :
    Calls Try.prog 64 #[.pointer (some ⟨R.rb, 0, none⟩), .int .i64 f, .int .i64 f, .string s] w (ReplPost R (splice R.text f f s.data.toList) w) := by
  have H := Lib.hid hs2
  clear hs2
  go_enter Try.func64, Try.ntmps64
  go_wp2_with fail
  refine bodyPost_ret (results_none rfl _ _ _) rfl ?_
  refine ⟨rfl, R, ?_⟩
  rw [H.out, splice_none]
  exact Done.refl h

set_option maxHeartbeats 3200000 in
set_option maxRecDepth 1000000 in
theorem repl_some (R : Rp) (f g : Int) (s : ByteArray) (w : World) (h : RopeAt w R) (h0 : 0 ≤ f) (h1 : f ≤ g) (h2 : g ≤ R.t.size) (hz : (R.t.size : Int) - (g - f) + s.size ≤ 65536) (hn : ((f == g) = false) ∨ (f = g ∧ s.toList.isEmpty = false)) :
    Calls Try.prog 64 #[.pointer (some ⟨R.rb, 0, none⟩), .int .i64 f, .int .i64 g, .string s] w (ReplPost R (splice R.text f g s.data.toList) w) := by
  obtain ⟨_, c1, _, hb⟩ := h.cells
  have hsz := h.size
  go_enter Try.func64, Try.ntmps64
  go_upto_region 0 with fail
  go_cut [1, 20] (fun p q wx => p = .int .i64 f ∧ q = .bool false ∧ w = wx)
  case first =>
    rcases hn with hn | ⟨rfl, hn⟩
    · go_wp2_with fail
      go_meet
      case rel => exact ⟨rfl, rfl, rfl⟩
    · go_wp2_with fail
      go_meet
      case rel => exact ⟨rfl, rfl, rfl⟩
  case rest =>
    obtain ⟨rfl, rfl, rfl⟩ := hcut
    clear hn
    go_wp2_with fail
    refine (ends_any R.t f w h.tree (List.nodup_cons.1 h.nd).2 (by omega) h0 (by omega)).mono ?_
    rintro e w1 ⟨a, r, rfl, hP, hE, ha, hr, hm1⟩
    go_wp2_with fail
    refine (size_any a _ ha).mono ?_
    rintro e w' ⟨rfl, rfl⟩
    have hPs := hP.size
    have hE1 := hE.1
    have hrn := (List.nodup_append.1 (hP.blocks.nodup_iff.2 (List.nodup_cons.1 h.nd).2)).2.1
    have HP := Lib.hid hP
    have HE := Lib.hid hE
    have Hm1 := Lib.hid hm1
    clear hP hE hm1 c1
    go_wp2_with fail
    refine (begins_any r _ _ hr hrn (by omega) (by omega) (by omega)).mono ?_
    rintro e w2 ⟨c, b, rfl, hQ, hB, hc, hbb, hm2⟩
    obtain ⟨htx, ht1, ht2⟩ := replace_parts HP.out hQ HE.out hB h1 h2
    have hQs := hQ.size
    have Htx := Lib.hid htx
    have HQ := Lib.hid hQ
    have Hm2 := Lib.hid hm2
    clear hQ hB hm2 htx
    go_wp2_with fail
    refine (size_any c _ hc).mono ?_
    rintro e w3 ⟨rfl, rfl⟩
    go_wp2_with fail
    refine (text_any c 0 (c.size : Int) _ hc (by omega) (by omega) (by omega) (by omega)).mono ?_
    rintro e w4 ⟨rfl, hx4⟩
    rw [show cut c.text 0 (c.size : Int) = c.text from cut_all _]
    obtain ⟨old, ho⟩ : ∃ old, old = bs c.text := ⟨_, rfl⟩
    rw [← ho]
    have hos1 : (old.size : Int) ≤ c.size := by rw [ho]; exact Int.le_refl _
    have hos2 : (c.size : Int) ≤ old.size := by rw [ho]; exact Int.le_refl _
    have Ho := Lib.hid ho
    clear ho
    have hrb : R.rb ∉ R.t.blocks := (List.nodup_cons.1 h.nd).1
    have hmr : Mod (· ∈ R.t.blocks) w w4 := Mod.trans (Mod.trans Hm1.out Hm2.out (fun k _ hk => HP.out.blocks.mem_iff.1 (List.mem_append_right _ hk))) hx4 (fun _ _ f => f.elim)
    have hB4 := h.blk.mod hmr hrb
    have d0 := hB4.cell 0
    have f1 := hB4.free 1
    have d1 := hB4.cell 1
    have hb4 := hB4.lt
    go_wp2_with fail
    have hmid : (old.extract 0 (f.toNat - a.size) ++ s ++ old.extract (g.toNat - a.size) old.size).size = (f.toNat - a.size) + s.size + (c.size - (g.toNat - a.size)) := by
      simp; omega
    have Hmid := Lib.hid hmid
    clear hmid
    have hbb4 := hbb.mod hx4 (fun _ _ f => f)
    obtain ⟨D, hDl, hIn⟩ := h.parts HP.out HQ.out ha Hm1.out hbb4 (Mod.trans Hm2.out hx4 (fun _ _ f => f.elim)) (old.extract 0 (f.toNat - a.size) ++ s ++ old.extract (g.toNat - a.size) old.size) (by rw [Hmid.out]; omega)
    have hA : ∀ k ∈ a.blocks ++ b.blocks, k ∈ R.t.blocks ∨ w.heap.size ≤ k := fun k hk => .inl ((replace_blocks HP.out HQ.out).mem_iff.1 ((List.mem_append.1 hk).elim (fun h => List.mem_append_left _ h) (fun h => List.mem_append_right _ (List.mem_append_right _ h))))
    have hwe := weld_any D a b _ (w4.drewN 1) (hIn.drewN 1)
    rw [hDl.1] at hwe
    have hkeep : ∀ w5 : World, Mod (fun k => k ∈ a.blocks ++ b.blocks ∨ k = D.d) (w4.drewN 1) w5 → w5.cell? ⟨R.rb, 0, none⟩ = some (.pointer (some ⟨R.D.d, 0, none⟩)) ∧ w5.cell? ⟨R.rb, 1, none⟩ = some (.pointer R.t.addr) ∧ w5.frozen? ⟨R.rb, 1, none⟩ = false := fun w5 hm => by
      have hn : ¬ (R.rb ∈ a.blocks ++ b.blocks ∨ R.rb = D.d) := by
        rintro (h1 | h1)
        · rcases hA _ h1 with h2 | h2
          · exact hrb h2
          · have := h.blk.lt; omega
        · exact (h.off _ (List.mem_cons_self ..)).1 (h1.trans hDl.1)
      exact ⟨(hm.cell (p := ⟨R.rb, 0, none⟩) hb4 hn).trans d0, (hm.cell (p := ⟨R.rb, 1, none⟩) hb4 hn).trans d1, (hm.frozen (p := ⟨R.rb, 1, none⟩) hb4 hn).trans f1⟩
    have Hkeep := Lib.hid hkeep
    have HA := Lib.hid hA
    have HDl := Lib.hid hDl
    have hw1 : IntKind.i64.wrap (f - (a.size : Int)) = f - (a.size : Int) := IntWalk.i64_in _ ⟨by omega, by omega⟩
    have hw2 : IntKind.i64.wrap (g - (a.size : Int)) = g - (a.size : Int) := IntWalk.i64_in _ ⟨by omega, by omega⟩
    have hw3 : 0 ≤ f - (a.size : Int) := by omega
    have hw4 : f - (a.size : Int) ≤ (old.size : Int) := by omega
    have hw5 : 0 ≤ g - (a.size : Int) := by omega
    have hw6 : g - (a.size : Int) ≤ (old.size : Int) := by omega
    have hw7 : (f - (a.size : Int)).toNat = f.toNat - a.size := by omega
    have hw8 : (g - (a.size : Int)).toNat = g.toNat - a.size := by omega
    have hw9 : (a.size : Int) ≤ g := by omega
    have hw10 : ¬ 9223372036854775807 < min (f.toNat - a.size) old.size + s.size := by omega
    have hw11 : ¬ 9223372036854775807 < min (f.toNat - a.size) old.size + s.size + (old.size - (g.toNat - a.size)) := by omega
    clear hkeep hA hDl
    go_region_held3 (fun w5 => w5.cell? ⟨R.rb, 0, none⟩ = some (.pointer (some ⟨R.D.d, 0, none⟩))) (first | exact k0 | (rw [World.cell?_setCell_other _ _ _ _ (by simp)]; first | exact k0 | assumption) | go_keep)
      (first | (go_at_call 59; refine hwe.mono ?_; rintro e w5 ⟨t, rfl, hj, hp5, hW5⟩; obtain ⟨k0, k1, k2⟩ := Hkeep.out _ hW5.mod))
    clear hw1 hw2 hw3 hw4 hw5 hw6 hw7 hw8 hw9 hw10 hw11
    go_end0
    have htl : R.text.length = R.t.size := rfl
    have hal : a.text.length = a.size := rfl
    have hcl : c.text.length = c.size := rfl
    have htext : t.text = splice R.text f g s.data.toList := by
      rw [show R.text = R.t.text from rfl, Htx.out, splice_mid _ _ _ _ _ _ (by rw [hal]; omega) h1 (by rw [hal, hcl]; omega), T.text_owns, hj, ← T.text_owns, ← T.text_owns]
      congr 2
      rw [ByteArray.data_append, ByteArray.data_append, Array.toList_append, Array.toList_append, Ho.out, extract_cut _ _ _ 0 (f - a.text.length) (by omega) (by rw [hal]; omega), extract_cut _ _ _ (g - a.text.length) c.text.length (by rw [hal]; omega) (by rw [bs_size]; omega), bs_toList, List.append_assoc]
    refine ⟨rfl, _, h.rooted (hmr.drewN 1 |>.mono (fun k _ hk => .inl (List.mem_cons_of_mem _ hk))) (hB4.drewN 1) HA.out HDl.out hW5 hp5 htext ?_⟩
    have hl := splice_len R.text f g s.data.toList h0 h1 (by rw [htl]; exact h2)
    rw [← htext, htl, toList_length] at hl
    have : t.text.length = t.size := rfl
    omega

/-- replace, of any stretch of the text. -/
theorem repl_any (R : Rp) (f g : Int) (s : ByteArray) (w : World) (h : RopeAt w R) (h0 : 0 ≤ f) (h1 : f ≤ g) (h2 : g ≤ R.t.size) (hz : (R.t.size : Int) - (g - f) + s.size ≤ 65536) :
    Calls Try.prog 64 #[.pointer (some ⟨R.rb, 0, none⟩), .int .i64 f, .int .i64 g, .string s] w (ReplPost R (splice R.text f g s.data.toList) w) := by
  by_cases hfg : f = g
  · subst hfg
    by_cases hs : s.data.toList = []
    · exact repl_nothing R f s w h (by rw [ByteArray.toList_eq, hs]; rfl) hs
    · exact repl_some R f f s w h h0 h1 h2 hz (.inr ⟨rfl, by rw [ByteArray.toList_eq]; simpa using hs⟩)
  · exact repl_some R f g s w h h0 h1 h2 hz (.inl (by simpa using hfg))

end Go.Proofs.Ytbcjlbapgidhiaa

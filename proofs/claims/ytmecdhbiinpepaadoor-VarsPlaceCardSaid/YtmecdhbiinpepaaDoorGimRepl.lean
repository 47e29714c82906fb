/- What rope's replace computes. Conditions: a rope of at most 65536 bytes before and behind it. -/
import Derived.Test.YtmecdhbiinpepaaDoorGimRope1
import Derived.Test.YtmecdhbiinpepaaDoorGimPackA
import Derived.Test.YtmecdhbiinpepaaDoorGimWeldG
import Derived.Deep.RegionHeld3
namespace Go.Proofs.YtmecdhbiinpepaaDoor
open Go.RowKit Go.Gim

theorem WeldIn.drewN {D : Dice} {a b : T} {m : ByteArray} {w : World} (h : WeldIn D a m b w) (n : Nat) : WeldIn D a m b (w.drewN n) :=
  ⟨WeldAt.start (h.start.ta.drewN n) (h.start.tb.drewN n) h.start.nd h.start.ha h.start.hb h.start.la h.start.lb (h.dice.drewN n), h.dice.drewN n, h.off, h.ga, h.gb, h.size⟩

def ReplPost (R : Rp) (s : List UInt8) (w : World) (e : Ending) (w' : World) : Prop := e = .returned (.tuple #[]) ∧ ∃ R', Done R R' s w w'

/-- What weld asks, of trees that replace has parted. -/
theorem RopeAt.parts {w w1 w2 : World} {R : Rp} {a r c b : T} (h : RopeAt w R) (hp : Parted R.t a r) (hq : Parted r c b) (ha : TreeAt w1 a) (hm1 : Mod (· ∈ R.t.blocks) w w1) (hb : TreeAt w2 b) (hm2 : Mod (· ∈ r.blocks) w1 w2) (m : ByteArray) (hs : a.size + m.size + b.size ≤ 1000000) :
    ∃ D, Dice.Like D R.D ∧ WeldIn D a m b w2 := by
  obtain ⟨D, hD, hl⟩ := h.dice
  have hperm := replace_blocks hp hq
  have hnd : (a.blocks ++ (c.blocks ++ b.blocks)).Nodup := hperm.nodup_iff.2 (List.nodup_cons.1 h.nd).2
  have hnd2 := List.nodup_append.1 hnd
  have hnd3 := List.nodup_append.1 hnd2.2.1
  have hrm : ∀ k, k ∈ r.blocks → k ∈ c.blocks ++ b.blocks := fun k hk => hq.blocks.mem_iff.2 hk
  have hab : ∀ k, k ∈ a.blocks ++ b.blocks → k ∈ R.t.blocks := fun k hk => hperm.mem_iff.1 ((List.mem_append.1 hk).elim (fun h => List.mem_append_left _ h) (fun h => List.mem_append_right _ (List.mem_append_right _ h)))
  have hoffD : D.Off R.t.blocks := fun k hk => (h.off.like hl) k (List.mem_cons_of_mem _ hk)
  have hD1 := hD.off hoffD hm1
  have hD2 := hD1.off (A := r.blocks) (fun k hk => hoffD k (hp.blocks.mem_iff.1 (List.mem_append_right _ hk))) hm2
  obtain ⟨g1, _, g3⟩ := replace_pcs hp hq h.pcs
  have hhp := hp.heap h.heap
  have hhq := hq.heap hhp.2
  have hlp := hp.le h.heap _ h.le
  have hlq := hq.le hhp.2 _ hlp.2
  refine ⟨D, hl, WeldAt.start (ha.mod hm2 (fun k hk hk2 => hnd2.2.2 k hk k (hrm k hk2) rfl)) hb ?_ hhp.1 hhq.2 hlp.1 hlq.2 hD2, hD2, fun k hk => hoffD k (hab k hk), g1, g3, hs⟩
  exact List.nodup_append.2 ⟨hnd2.1, hnd3.2.1, fun k hk k2 hk2 e => hnd2.2.2 k hk k2 (List.mem_append_right _ hk2) e⟩

/-- The rope behind weld and the store of its new root. -/
theorem RopeAt.rooted {w w2 w3 : World} {R : Rp} {D : Dice} {A : List Nat} {t : T} {s : List UInt8} (h : RopeAt w R) (hm : Mod R.Foot w w2) (hb2 : Blk w2 R.rb 86 #[.pointer (some ⟨R.D.d, 0, none⟩), .pointer R.t.addr]) (hA : ∀ k ∈ A, k ∈ R.t.blocks ∨ w.heap.size ≤ k) (hl : Dice.Like D R.D)
    (hW : WeldAt D A w2 t .nil w3) (hp : Pcs t.owns) (ht : t.text = s) (hs : t.size ≤ 65536) :
    Done R { R with t := t } s w (w3.setCell ⟨R.rb, 1, none⟩ (.pointer t.addr)) := by
  have hrl : R.rb < w.heap.size := h.blk.lt
  have hrt : R.rb ∉ R.t.blocks := (List.nodup_cons.1 h.nd).1
  have hrA : R.rb ∉ A := fun hk => (hA _ hk).elim hrt (fun h => by omega)
  have hrd : R.rb ≠ D.d := by rw [hl.1]; exact (h.off _ (List.mem_cons_self ..)).1
  have htn : ∀ k, k ∈ t.blocks → k ∈ R.t.blocks ∨ w.heap.size ≤ k := fun k hk => by
    rcases hW.old k (List.mem_append_left _ hk) with h1 | h1
    · exact hA k h1
    · exact .inr (Nat.le_trans hm.size h1)
  have hrt2 : R.rb ∉ t.blocks := fun hk => (htn _ hk).elim hrt (fun h => by omega)
  have hb3 : Blk w3 R.rb 86 #[.pointer (some ⟨R.D.d, 0, none⟩), .pointer R.t.addr] := hb2.mod hW.mod (fun h => h.elim hrA hrd)
  have hset : Mod (· = R.rb) w3 (w3.setCell ⟨R.rb, 1, none⟩ (.pointer t.addr)) := (Mod.refl (· = R.rb) w3).setCell (p := ⟨R.rb, 1, none⟩) (fun _ => rfl) _
  obtain ⟨D3, hD3, hl3⟩ := hW.dice
  have hdl := h.dlt
  have hl3' : Dice.Like D3 R.D := hl3.trans hl
  have hmod : Mod R.Foot w (w3.setCell ⟨R.rb, 1, none⟩ (.pointer t.addr)) := by
    refine Mod.trans (Mod.trans hm hW.mod (fun k hk h1 => ?_)) hset (fun k hk h1 => .inl (by rw [h1]; exact List.mem_cons_self ..))
    rcases h1 with h1 | h1
    · rcases hA k h1 with h2 | h2
      · exact .inl (List.mem_cons_of_mem _ h2)
      · omega
    · exact .inr (h1.trans hl.1)
  refine ⟨⟨?_, hW.ta.mod hset (fun k hk e => hrt2 (e ▸ hk)), ?_, hW.ha, hW.la, hp, ⟨D3, hD3.mod hset ?_ ?_, hl3'⟩, ?_, hs⟩, ht, ⟨rfl, rfl, htn⟩, hmod⟩
  · exact hb3.set 1 _
  · refine List.nodup_cons.2 ⟨hrt2, ?_⟩
    have := hW.nd
    rwa [show t.blocks ++ T.nil.blocks = t.blocks from List.append_nil _] at this
  · rw [hl3'.1]; exact fun e => (h.off _ (List.mem_cons_self ..)).1 e.symm
  · rw [hl3'.2.1]; intro k hk e; exact (h.off _ (List.mem_cons_self ..)).2 (e ▸ hk)
  · intro k hk
    rcases List.mem_cons.1 hk with rfl | hk
    · exact h.off _ (List.mem_cons_self ..)
    · rcases htn k hk with h1 | h1
      · exact h.off k (List.mem_cons_of_mem _ h1)
      · exact ⟨fun e => by have := hdl.1; have e2 : k = R.D.d := e; omega, fun e => by have := hdl.2 k e; omega⟩

end Go.Proofs.YtmecdhbiinpepaaDoor

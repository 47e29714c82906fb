/- marks.Table: New, Get, Pose, Add. Conditions: a table that may be. -/
import Derived.Test.YthlmgoagnfkhdaaGreatGimF28
import Derived.Test.YthlmgoagnfkhdaaGreatGimF05
import Derived.Test.YthlmgoagnfkhdaaGreatGimF07
import Derived.Deep.DeepCutAuto
import Derived.Handy
import Derived.Laws.ResultCell
set_option maxHeartbeats 6400000
set_option maxRecDepth 1000000
set_option linter.unusedVariables false
set_option linter.unusedSimpArgs false
namespace Go.Proofs.YthlmgoagnfkhdaaGreat
open Go.RowKit Go.Gim
structure TabAt (w : World) (tb mb : Nat) (L : Tb) (last : Int) : Prop where
 blk : Blk w tb 120 #[.map (some mb), .int .i64 last]
 map : MapIs Tryz.prog 3 w mb L
 ne : tb ≠ mb
def tabS (tb mb : Nat) (k : Nat) : Prop := k = tb ∨ k = mb
theorem TabAt.mod {S : Nat → Prop} {w w' : World} {tb mb : Nat} {L : Tb} {last : Int} (h : TabAt w tb mb L last) (hm : Mod S w w') (h1 : ¬ S tb) (h2 : ¬ S mb) : TabAt w' tb mb L last :=
 ⟨h.blk.mod hm h1, h.map.mod hm h2, h.ne⟩
theorem TabAt.ext {w w' : World} {tb mb : Nat} {L : Tb} {last : Int} (h : TabAt w tb mb L last) (hm : Ext w w') : TabAt w' tb mb L last := h.mod hm (fun f => f) (fun f => f)
theorem zeroRg (w : World) : (zeroValue 66).run Tryz.prog w = .ok (rgV rg0) w := Tryz.zeroValue66 w
theorem id_wf {id : Int} (h1 : -9223372036854775808 ≤ id) (h2 : id ≤ 9223372036854775807) : (Lit.int .i64 id).wf = true := by
 simp [Lit.wf, IntKind.min, IntKind.max, IntKind.signed, IntKind.bits]; omega
theorem TabAt.look {w : World} {tb mb : Nat} {L : Tb} {last : Int} (h : TabAt w tb mb L last) {id : Int} (hid : (Lit.int .i64 id).wf = true) (o : Option Rg) (ho : getR L id = o) :
  (Instr.lookup 118 (.map (some mb)) (.int .i64 id) true).run Tryz.prog w = .ok (.tuple #[rgV (o.getD rg0), .bool o.isSome]) w := by
 rw [← ho]; exact h.map.look Tryz.underlying3 Tryz.underlying118 zeroRg hid
theorem TabAt.look1 {w : World} {tb mb : Nat} {L : Tb} {last : Int} (h : TabAt w tb mb L last) {id : Int} (hid : (Lit.int .i64 id).wf = true) (o : Option Rg) (ho : getR L id = o) :
  (Instr.lookup 118 (.map (some mb)) (.int .i64 id) false).run Tryz.prog w = .ok (rgV (o.getD rg0)) w := by
 rw [← ho]; exact h.map.look1 Tryz.underlying3 Tryz.underlying118 zeroRg hid
theorem tnew_any (w : World) : Calls Tryz.prog 45 #[] w fun e w' => ∃ tb mb, e = .returned (.pointer (some ⟨tb, 0, none⟩)) ∧ TabAt w' tb mb [] 0 ∧ w.heap.size ≤ tb ∧ w.heap.size ≤ mb ∧ Ext w w' := by
 have hmm := @run_makeMap Tryz.prog
 go_enter Tryz.func45, Tryz.ntmps45
 go_wp2_with fail
 go_ret
 have h1 := MapIs.made Tryz.prog 3 w
 have hx1 : Ext w (w.alloc (.map #[] 0)) := (Mod.refl _ w).alloc _
 have hs : (w.alloc (.map #[] 0)).heap.size = w.heap.size + 1 := by simp
 refine ⟨_, w.heap.size, rfl, ⟨?_, h1.mod ((Mod.refl (fun _ => False) _).alloc _) (fun f => f), by omega⟩, by omega, Nat.le_refl _, hx1.alloc _⟩
 rw [← hs]
 exact Blk.new _ _ _
end Go.Proofs.YthlmgoagnfkhdaaGreat
namespace Go.Gim
end Go.Gim
namespace Go.Proofs.YthlmgoagnfkhdaaGreat
open Go.RowKit Go.Gim
theorem box_rg : Box Tryz.prog 66 #[.int .i64 0, .int .i64 0, .bool false, .bool false, .int .i64 0] := by
 constructor
 ·intro ρ o w h
  simp [execOp, h, go_sem]
 ·intro ρ o w d s p y x h hd hs hx hc hy hb
  obtain ⟨x0, x1, x2, x3, x4, rfl⟩ : ∃ a b c d e, x = #[a, b, c, d, e] := by
   rcases x with ⟨l⟩
   match l, hx with
   | [a, b, c, d, e], _ => exact ⟨a, b, c, d, e, rfl⟩
  obtain ⟨y0, y1, y2, y3, y4, rfl⟩ : ∃ a b c d e, y = #[a, b, c, d, e] := by
   rcases y with ⟨l⟩
   match l, hy with
   | [a, b, c, d, e], _ => exact ⟨a, b, c, d, e, rfl⟩
  have o0 := hc x0 (by simp)
  have o1 := hc x1 (by simp)
  have o2 := hc x2 (by simp)
  have o3 := hc x3 (by simp)
  have o4 := hc x4 (by simp)
  have c0 : w.cell? ⟨p, 0, none⟩ = some y0 := hb.cell 0
  have c1 : w.cell? ⟨p, 1, none⟩ = some y1 := hb.cell 1
  have c2 : w.cell? ⟨p, 2, none⟩ = some y2 := hb.cell 2
  have c3 : w.cell? ⟨p, 3, none⟩ = some y3 := hb.cell 3
  have c4 : w.cell? ⟨p, 4, none⟩ = some y4 := hb.cell 4
  have f0 := hb.free 0
  have f1 := hb.free 1
  have f2 := hb.free 2
  have f3 := hb.free 3
  have f4 := hb.free 4
  refine ⟨((((w.setCell ⟨p, 0, none⟩ x0).setCell ⟨p, 1, none⟩ x1).setCell ⟨p, 2, none⟩ x2).setCell ⟨p, 3, none⟩ x3).setCell ⟨p, 4, none⟩ x4, ?_, ((((hb.set 0 x0).set 1 x1).set 2 x2).set 3 x3).set 4 x4, (((((Mod.refl (· = p) w).setCell (p := ⟨p, 0, none⟩) (fun _ => rfl) _).setCell (p := ⟨p, 1, none⟩) (fun _ => rfl) _).setCell (p := ⟨p, 2, none⟩) (fun _ => rfl) _).setCell (p := ⟨p, 3, none⟩) (fun _ => rfl) _).setCell (p := ⟨p, 4, none⟩) (fun _ => rfl) _⟩
  simp [execOp, h, hd, hs, go_sem, run_store _ _ _ _ _ o0, run_store _ _ _ _ _ o1, run_store _ _ _ _ _ o2, run_store _ _ _ _ _ o3, run_store _ _ _ _ _ o4, c0, c1, c2, c3, c4, f0, f1, f2, f3, f4]
end Go.Proofs.YthlmgoagnfkhdaaGreat

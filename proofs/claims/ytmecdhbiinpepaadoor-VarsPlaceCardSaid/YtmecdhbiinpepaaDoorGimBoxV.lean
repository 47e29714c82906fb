/- Boxes of selections. Conditions: none. -/
import Derived.Test.YtmecdhbiinpepaaDoorGimReg4
import Derived.Test.YtmecdhbiinpepaaDoorGimLaw
import Derived.Lib.SmallJoins
namespace Go.Proofs.YtmecdhbiinpepaaDoor
open Go.RowKit Go.Gim

theorem box_sel : Box Tryd.prog 23 #[.int .i64 0, .int .i64 0] := by
  constructor
  · intro ρ o w h
    simp [execOp, h, go_sem]
  · intro ρ o w d s p y x h hd hs hx hc hy hb
    obtain ⟨x0, x1, rfl⟩ := Go.Joins.array2 hx
    obtain ⟨y0, y1, rfl⟩ := Go.Joins.array2 hy
    have o0 := hc x0 (by simp)
    have o1 := hc x1 (by simp)
    have c0 : w.cell? ⟨p, 0, none⟩ = some y0 := hb.cell 0
    have c1 : w.cell? ⟨p, 1, none⟩ = some y1 := hb.cell 1
    have f0 := hb.free 0
    have f1 := hb.free 1
    refine ⟨(w.setCell ⟨p, 0, none⟩ x0).setCell ⟨p, 1, none⟩ x1, ?_, (hb.set 0 x0).set 1 x1, ((Mod.refl (· = p) w).setCell (p := ⟨p, 0, none⟩) (fun _ => rfl) _).setCell (p := ⟨p, 1, none⟩) (fun _ => rfl) _⟩
    simp [execOp, h, hd, hs, go_sem, run_store _ _ _ _ _ o0, run_store _ _ _ _ _ o1, c0, c1, f0, f1]
end Go.Proofs.YtmecdhbiinpepaaDoor

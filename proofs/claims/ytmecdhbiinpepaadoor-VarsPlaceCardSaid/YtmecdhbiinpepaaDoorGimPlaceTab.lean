/- vars.Place, answered: what it gives is this list, at any text. Conditions: texts of at most 65536 bytes, the table of powers is laid; at most 1000 variables ahead, a path of at most 65536 bytes. -/
import Derived.Test.YtmecdhbiinpepaaDoorGimPackY
import Derived.Test.YtmecdhbiinpepaaDoorGimItoaTab
namespace Go.Proofs.YtmecdhbiinpepaaDoor
open Go.RowKit Go.Gim
theorem vplace_tab (R : Rp) (x : Int × Int) (env : List Pv) (eo : Option Addr) (cap : Nat) (w : World) (h : RopeAt w R) (hn : mayV (spanI x) R.t.size = true) (ht : Tab w)
    (hr : Reads w 2 eo env.length (spCells env)) (hel : env.length ≤ 1000) (hpl : ∀ p, getV pathN env = some p → p.size ≤ 65536) :
    Calls Tryd.prog 13 #[.agg #[.pointer (some ⟨R.rb, 0, none⟩)], .agg #[.int .i64 x.1, .int .i64 x.2], .slice eo env.length cap] w fun e w' => ∃ v, e = .returned (.tuple #[v, .int .i64 0]) ∧ w'.ownsRow w.heap.size 33 2 v (placeL R.text x env).length (spCells (placeL R.text x env)) ∧ Ext w w' := by
  have hlen : R.text.length = R.t.size := rfl
  have hz := h.size
  have hm := hn
  unfold mayV spanI at hm
  have hm := of_decide_eq_true hm
  simp only at hm
  obtain ⟨k, hk⟩ : ∃ k : Nat, x.2 = k := ⟨x.2.toNat, by omega⟩
  have hkn : x.2.toNat = k := by omega
  have hk2 : k ≤ R.text.length := by omega
  have hL : lineAt R.text k ≤ brk R.text := lineAt_le _ _
  have hb := brk_le R.text
  have hf : lineN R.text (lineAt R.text k) ≤ k := lineN_le R.text k
  have he : k ≤ lineE R.text (lineAt R.text k) := lineE_geV _ _ hk2
  have he2 := lineE_le R.text (lineAt R.text k)
  have hhas : hasB R.text (lineAt R.text k : Nat) = true := has_of ⟨by omega, by omega⟩
  have hsz := ltAt_size R.text k
  refine vplace_walk R x env eo cap w h hn hr hel hpl (lineAt R.text k : Nat) (lineN R.text (lineAt R.text k) : Nat) (lineE R.text (lineAt R.text k) : Nat) (ltAt R.text k) (wdAt R.text k) (digS (lineAt R.text k)) (digS (lineAt R.text k + 1))
    (fun w' hx => ?_) (fun w' hx => ?_) (fun w' hx => ?_) (fun w' hx => ?_) ?_ (fun w' => ?_) ?_ (fun w' hx => ?_) (fun w' hx => ?_) _ ?_
  · have := at_yes R x.2 w' (h.ext hx) (rises_of ⟨by omega, by omega, by omega⟩)
    rw [hkn] at this
    exact this
  · exact start_yes R _ w' (h.ext hx) hhas
  · exact end_yes R _ w' (h.ext hx) hhas
  · exact slice_yes R _ _ w' (h.ext hx) (rises_of ⟨by omega, by omega, by omega⟩)
  · exact IntWalk.wrap64_in _ ⟨by omega, by omega⟩
  · rw [hk, show (k : Int) - (lineN R.text (lineAt R.text k) : Nat) = ((k - lineN R.text (lineAt R.text k) : Nat) : Int) by omega]
    exact vword_any _ _ w' (by omega) (by omega)
  · exact IntWalk.wrap64_in _ ⟨by omega, by omega⟩
  · exact itoa_tab _ w' (by omega) (ht.ext hx)
  · exact itoa_tab (lineAt R.text k + 1) w' (by omega) (ht.ext hx)
  · unfold placeL; rw [hkn]
end Go.Proofs.YtmecdhbiinpepaaDoor

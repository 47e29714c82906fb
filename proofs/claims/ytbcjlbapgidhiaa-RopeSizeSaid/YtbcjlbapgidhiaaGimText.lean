/- What package rope's text computes. Conditions: at most 10000000 bytes. -/
import Derived.Test.YtbcjlbapgidhiaaGimLay
namespace Go.Proofs.Ytbcjlbapgidhiaa
open Go.RowKit Go.Gim Go.Lib

theorem RowB.convert {B : Nat} {l : List UInt8} {v : Value} {w : World} (h : RowB B l v w) : (convert 89 9 v).run Try.prog w = .ok (.string (bs l)) w := by
  rcases h.2.2 with ⟨rfl, hn⟩ | ⟨g, cap, cur, rfl, _, _, hnc, _⟩
  · obtain rfl : l = [] := List.length_eq_zero_iff.1 hn
    rw [run_convert_bytes_string w _ _ _ none 0 0 Try.underlying89 Try.underlying5 Try.underlying9]
    simp [Conv.bytesToString]; rfl
  · refine Go.run_convert_bytes_back w _ _ _ ⟨g, 0, none⟩ cap l Try.underlying89 Try.underlying5 Try.underlying9 (fun j hj => ?_)
    have e1 : (⟨g, 0, none⟩ : Addr).add j = ⟨g, j, none⟩ := by unfold Addr.add; split <;> simp_all
    rw [e1, h.2.cellAt j (by omega)]
    simp [hj]

theorem RowB.nil (w : World) : RowB w.heap.size [] (.slice none 0 0) w := ⟨Nat.le_refl _, World.ownsRow_nil w _ _ _⟩

set_option maxHeartbeats 1600000 in
set_option maxRecDepth 1000000 in
theorem text_any (t : T) (f g : Int) (w : World) (ht : TreeAt w t) (hs : t.size ≤ 10000000) (h0 : 0 ≤ f) (h1 : g ≤ 10000000) (h2 : f ≤ 10000000) :
    Calls Try.prog 60 #[.pointer t.addr, .int .i64 f, .int .i64 g] w fun e w' => e = .returned (.string (bs (cut t.text f g))) ∧ Ext w w' := by
  go_enter Try.func60, Try.ntmps60
  go_wp2_with fail
  refine (lay_any t _ [] f g w.heap.size w ht ht.lt hs h0 h1 h2 (RowB.nil w) (by simp; omega)).mono ?_
  rintro e w1 ⟨v', rfl, hr, hm⟩
  rw [List.nil_append] at hr
  have hcv := hr.convert
  clear hr
  go_wp2_with fail
  go_ret
  exact ⟨rfl, hm.os, hm.tape, hm.output, hm.size, fun k hk _ => hm.block k hk (by omega)⟩

end Go.Proofs.Ytbcjlbapgidhiaa

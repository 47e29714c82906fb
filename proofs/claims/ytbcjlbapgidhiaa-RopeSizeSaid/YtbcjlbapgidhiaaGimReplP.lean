/- A text with a stretch replaced: plain facts. Conditions: none. -/
import Derived.Test.YtbcjlbapgidhiaaGimLayP
import Derived.Test.YtbcjlbapgidhiaaGimWeldP
namespace Go.Gim

/-- l with s in the place of the stretch from f up to g. -/
def splice {α : Type} (l : List α) (f g : Int) (s : List α) : List α := l.take f.toNat ++ (s ++ l.drop g.toNat)

theorem splice_none {α : Type} (l : List α) (f : Int) : splice l f f [] = l := by simp [splice]
theorem splice_len {α : Type} (l : List α) (f g : Int) (s : List α) (h0 : 0 ≤ f) (h1 : f ≤ g) (h2 : g ≤ l.length) : ((splice l f g s).length : Int) = l.length - (g - f) + s.length := by
  simp only [splice, List.length_append, List.length_take, List.length_drop]; omega
theorem splice_mid {α : Type} (a c b s : List α) (f g : Int) (h0 : (a.length : Int) ≤ f) (h1 : f ≤ g) (h2 : g - a.length ≤ c.length) :
    splice (a ++ (c ++ b)) f g s = a ++ ((cut c 0 (f - a.length) ++ (s ++ cut c (g - a.length) c.length)) ++ b) := by
  unfold splice cut
  rw [List.take_append, List.take_append, List.drop_append, List.drop_append]
  rw [List.take_of_length_le (show a.length ≤ f.toNat from by omega)]
  rw [show f.toNat - a.length - c.length = 0 from by omega, show (f - (a.length : Int)).toNat = f.toNat - a.length from by omega]
  rw [List.drop_of_length_le (show a.length ≤ g.toNat from by omega)]
  rw [show (g - (a.length : Int)).toNat = g.toNat - a.length from by omega, show g.toNat - a.length - c.length = 0 from by omega]
  simp

/-- A tree parted in three by ends and begins, as replace does it. -/
theorem replace_parts {t a r c b : T} {f g : Int} (hp : Parted t a r) (hq : Parted r c b) (he : EndsAt f a r) (hb : BeginsAt (g - a.size) c b) (h1 : f ≤ g) (h2 : g ≤ t.size) :
    t.text = a.text ++ (c.text ++ b.text) ∧ (a.size : Int) ≤ f ∧ g - a.size ≤ c.size := by
  refine ⟨?_, he.1, ?_⟩
  · rw [T.text_owns, hp.owns, hq.owns, join_append, join_append, ← T.text_owns, ← T.text_owns, ← T.text_owns]
  · have s1 := hp.size
    have s2 := hq.size
    rcases hb.1 with h | h
    · have : b.size = 0 := by rw [T.size_join, h]; rfl
      omega
    · exact h
theorem replace_pcs {t a r c b : T} (hp : Parted t a r) (hq : Parted r c b) (h : Pcs t.owns) : Pcs a.owns ∧ Pcs c.owns ∧ Pcs b.owns := by
  rw [hp.owns, hq.owns] at h
  have h1 := good_append.1 h
  have h2 := good_append.1 h1.2.1
  exact ⟨h1.1, h2.1, h2.2.1⟩
theorem replace_blocks {t a r c b : T} (hp : Parted t a r) (hq : Parted r c b) : (a.blocks ++ (c.blocks ++ b.blocks)).Perm t.blocks :=
  (List.Perm.append_left _ hq.blocks).trans hp.blocks

end Go.Gim

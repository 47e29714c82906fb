/- What Do tells turns the text back, and what that tells turns it forth, plainly. Conditions: none. -/
import Derived.Test.YthlmgoagnfkhdaaGreatGimG44
set_option maxHeartbeats 6400000
set_option maxRecDepth 1000000
set_option linter.unusedVariables false
set_option linter.unusedSimpArgs false
namespace Go.Gim
theorem back_again {s : ByteArray} {es : List Ed} (hs : s.size ≤ 65536) (hm : mayE s.size es = 0) : mayE (textC s es).size (backC s es) = 0 ∧ textC (textC s es) (backC s es) = s := by
 obtain ⟨hrz, _⟩ := mayE_zero hm
 obtain ⟨h1, h2, h3⟩ := back_all hrz
 have e1 : textC s es = bs (applyL s.data.toList es) := by unfold textC; rw [if_pos hm]
 have e2 : backC s es = backE s es := by unfold backC; rw [if_pos hm]
 rw [e1, e2]
 have hz : ((bs (applyL s.data.toList es)).size : Int) = ((applyL s.data.toList es).length : Nat) := rfl
 have hr : rangedE (bs (applyL s.data.toList es)).size (backE s es) = 0 := asc_rangedN h2 (fun e he => by rw [hz]; exact h3 e he)
 have hd : (bs (applyL s.data.toList es)).data.toList = applyL s.data.toList es := rfl
 have hg := applyL_len (s := applyL s.data.toList es) (es := backE s es) hr
 rw [h1] at hg
 have hm2 : mayE (bs (applyL s.data.toList es)).size (backE s es) = 0 := by
  rw [mayE_fit hr, hz, ← hg]
  have : s.data.toList.length = s.size := rfl
  rw [if_neg (by omega)]
 refine ⟨hm2, ?_⟩
 unfold textC
 rw [if_pos hm2, hd, h1, bs_of]
theorem backT_tl {s : ByteArray} {S : List Ed} (hin : ∀ e ∈ S, 0 ≤ e.a ∧ e.a ≤ e.b ∧ e.b ≤ s.size) : ∀ k, k ≤ S.length → ∀ y ∈ (backT s (S.take k)).out, y.t.size ≤ k * s.size := by
 intro k
 induction k with
 | zero => intro _ y hy; cases hy
 | succ k ih =>
  intro hk y hy
  have hx : S[k]? = some (S[k]'(by omega)) := List.getElem?_eq_getElem _
  rw [backT_step s hx] at hy
  have ih := ih (by omega)
  have ho : (oldE s (S[k]'(by omega))).size ≤ s.size := by
   unfold oldE
   rw [ByteArray.size_extract]
   omega
  rw [Nat.add_mul, Nat.one_mul]
  generalize S[k]'(by omega) = x at *
  generalize backT s (S.take k) = st at *
  have hy : y ∈ backOut s st x := hy
  by_cases hc : st.out = [] ∨ x.a ≠ st.e
  ·rw [backOut_new hc] at hy
   rcases List.mem_append.1 hy with hy | hy
   ·have := ih y hy; omega
   ·rw [List.mem_singleton.1 hy]
    show (oldE s x).size ≤ _
    omega
  ·have hn : st.out ≠ [] := fun e => hc (.inl e)
   have he : x.a = st.e := by
    by_cases e : x.a = st.e
    ·exact e
    ·exact absurd (.inr e) hc
   obtain ⟨z, hz⟩ : ∃ z, st.out.getLast? = some z := ⟨_, List.getLast?_eq_some_getLast hn⟩
   rw [backOut_add hz he] at hy
   rcases List.mem_or_eq_of_mem_set hy with hy | rfl
   ·have := ih y hy; omega
   ·have := ih z (List.mem_of_getLast? hz)
    simp only
    rw [ByteArray.size_append]
    omega
theorem backC_tl {s : ByteArray} {es : List Ed} : ∀ y ∈ backC s es, y.t.size ≤ es.length * s.size := by
 intro y hy
 unfold backC at hy
 split at hy
 ·rename_i h
  obtain ⟨h1, _⟩ := mayE_zero h
  have hin : ∀ e ∈ sorted lessE es, 0 ≤ e.a ∧ e.a ≤ e.b ∧ e.b ≤ s.size := fun e he => rangedE_mem h1 e ((sorted_mem lessE es e).1 he)
  have := backT_tl hin (sorted lessE es).length (Nat.le_refl _)
  rw [List.take_of_length_le (Nat.le_refl _), sorted_length] at this
  exact this y hy
 ·cases hy
end Go.Gim

/- The word of a place in the whole text and in its line: the same; what that word is. Conditions: none. -/
import Derived.Test.YtmecdhbiinpepaaDoorGimPackY
namespace Go.Gim
theorem upto3_atV (l : List UInt8) : ∀ j, j < brk l → l[upto 3 l j]? = some 10 := by
  induction l with
  | nil => intro j h; rw [brk_nil] at h; omega
  | cons c r ih =>
    intro j h
    rw [brk_cons] at h
    simp only [upto, byW3_one]
    by_cases hc : (c == 10) = true
    · have hc' : c = 10 := by simpa using hc
      rw [if_pos hc] at h ⊢
      by_cases hj : j < 1
      · rw [if_pos hj]; simp [hc']
      · rw [if_neg hj]
        have a := ih (j - 1) (by omega)
        rw [Nat.add_comm 1, List.getElem?_cons_succ]; exact a
    · rw [if_neg hc] at h ⊢
      rw [if_neg (Nat.not_lt_zero j), Nat.sub_zero]
      have a := ih j (by omega)
      rw [Nat.add_comm 1, List.getElem?_cons_succ]; exact a
theorem lineN_edge (l : List UInt8) (j : Nat) (h : j ≤ brk l) : lineN l j = 0 ∨ l[lineN l j - 1]? = some 10 := by
  cases j with
  | zero => left; simp [lineN]
  | succ i =>
    right
    have := upto3_atV l i (by omega)
    simpa [lineN] using this
theorem lineE_edge (l : List UInt8) (j : Nat) : lineE l j = l.length ∨ l[lineE l j]? = some 10 := by
  by_cases h : j < brk l
  · right; exact upto3_atV l j h
  · left; exact upto_all 3 l j (by rw [byW3]; omega)
theorem wB_ten : wB 10 = false := by decide
theorem fromW_edge (l : List UInt8) (N : Nat) (h : N = 0 ∨ ∃ c, l[N - 1]? = some c ∧ wB c = false) : fromW l N = N := by
  cases N with
  | zero => rfl
  | succ n =>
    rcases h with h | ⟨c, h, hc⟩
    · omega
    · have h' : l[n]? = some c := by simpa using h
      obtain ⟨hlt, e⟩ := List.getElem?_eq_some_iff.1 h'
      rw [fromW_pos l n hlt, if_neg (by rw [e, hc]; decide)]
theorem toW_edge (l : List UInt8) (E : Nat) (h : E = l.length ∨ ∃ c, l[E]? = some c ∧ wB c = false) : toW l E = E := by
  rcases h with h | ⟨c, h, hc⟩
  · exact toW_over l E (by omega)
  · obtain ⟨hlt, e⟩ := List.getElem?_eq_some_iff.1 h
    rw [toW_at l E hlt, if_neg (by rw [e, hc]; decide)]
theorem cut_get (l : List UInt8) (N E i : Nat) (h : N + i < E) (hE : E ≤ l.length) : (cut l (N : Nat) (E : Nat))[i]? = l[N + i]? := by
  unfold cut
  rw [List.getElem?_drop, Int.toNat_natCast, Int.toNat_natCast, List.getElem?_take, if_pos h]
theorem fromW_seg (l : List UInt8) (N E : Nat) (hE : E ≤ l.length) (hN : N = 0 ∨ ∃ c, l[N - 1]? = some c ∧ wB c = false) : ∀ j, N + j ≤ E → fromW l (N + j) = N + fromW (cut l (N : Nat) (E : Nat)) j
  | 0, _ => fromW_edge l N hN
  | j + 1, h => by
    have ih := fromW_seg l N E hE hN j (by omega)
    have hg := cut_get l N E j (by omega) hE
    have hl1 : N + j < l.length := by omega
    have hl2 : j < (cut l (N : Nat) (E : Nat)).length := by rw [cut_len]; simp only [Int.toNat_natCast]; omega
    have hb : (cut l (N : Nat) (E : Nat))[j] = l[N + j] := by
      rw [List.getElem?_eq_getElem hl1, List.getElem?_eq_getElem hl2] at hg
      exact Option.some.inj hg
    rw [← Nat.add_assoc, fromW_pos l (N + j) hl1, fromW_pos _ j hl2, hb, ih]
    split <;> omega
theorem toW_seg (l : List UInt8) (N E : Nat) (hE : E ≤ l.length) (hed : E = l.length ∨ ∃ c, l[E]? = some c ∧ wB c = false) : ∀ d j, N + j + d = E → toW l (N + j) = N + toW (cut l (N : Nat) (E : Nat)) j
  | 0, j, h => by
    rw [show N + j = E by omega, toW_edge l E hed, toW_over _ j (by rw [cut_len]; simp only [Int.toNat_natCast]; omega)]; omega
  | d + 1, j, h => by
    have ih := toW_seg l N E hE hed d (j + 1) (by omega)
    have hg := cut_get l N E j (by omega) hE
    have hl1 : N + j < l.length := by omega
    have hl2 : j < (cut l (N : Nat) (E : Nat)).length := by rw [cut_len]; simp only [Int.toNat_natCast]; omega
    have hb : (cut l (N : Nat) (E : Nat))[j] = l[N + j] := by
      rw [List.getElem?_eq_getElem hl1, List.getElem?_eq_getElem hl2] at hg
      exact Option.some.inj hg
    rw [toW_at l (N + j) hl1, toW_at _ j hl2, hb, Nat.add_assoc, ih]
    split <;> omega
theorem bs_cut (s : ByteArray) (a b : Nat) : bs (cut s.data.toList (a : Nat) (b : Nat)) = s.extract a b := by
  rw [extract_bs, cut, Int.toNat_natCast, Int.toNat_natCast, List.drop_take]
/-- The word in the line is the word in the text. -/
theorem wdAt_text (s : ByteArray) (k : Nat) (hk : k ≤ s.size) : wdAt s.data.toList k = s.extract (fromW s.data.toList k) (toW s.data.toList k) := by
  obtain ⟨l, hl⟩ : ∃ l, l = s.data.toList := ⟨_, rfl⟩
  have hlen : l.length = s.size := by rw [hl]; rfl
  have hL := lineAt_le l k
  have hf : lineN l (lineAt l k) ≤ k := lineN_le l k
  have he : k ≤ lineE l (lineAt l k) := lineE_geV l k (by omega)
  have he2 := lineE_le l (lineAt l k)
  have n1 := lineN_edge l (lineAt l k) hL
  have n2 := lineE_edge l (lineAt l k)
  have f1 := fromW_seg l (lineN l (lineAt l k)) (lineE l (lineAt l k)) he2 (n1.imp id (fun h => ⟨10, h, wB_ten⟩)) (k - lineN l (lineAt l k)) (by omega)
  have f2 := toW_seg l (lineN l (lineAt l k)) (lineE l (lineAt l k)) he2 (n2.imp id (fun h => ⟨10, h, wB_ten⟩)) (lineE l (lineAt l k) - k) (k - lineN l (lineAt l k)) (by omega)
  rw [show lineN l (lineAt l k) + (k - lineN l (lineAt l k)) = k by omega] at f1 f2
  have t2 := toW_le (cut l (lineN l (lineAt l k) : Nat) (lineE l (lineAt l k) : Nat)) (k - lineN l (lineAt l k)) (by rw [cut_len]; simp only [Int.toNat_natCast]; omega)
  rw [cut_len] at t2
  simp only [Int.toNat_natCast] at t2
  have hlt : ltAt l k = s.extract (lineN l (lineAt l k)) (lineE l (lineAt l k)) := by unfold ltAt; rw [hl, bs_cut]
  have hd : (ltAt l k).data.toList = cut l (lineN l (lineAt l k) : Nat) (lineE l (lineAt l k) : Nat) := rfl
  rw [← hl]
  unfold wdAt
  rw [hd, hlt, ByteArray.extract_extract, ← f1, ← f2, Nat.min_eq_left (by omega)]
theorem word_before (l : List UInt8) : ∀ k, k ≤ l.length → fromW l k = 0 ∨ ∃ c, l[fromW l k - 1]? = some c ∧ wB c = false
  | 0, _ => Or.inl rfl
  | k + 1, h => by
    rw [fromW_pos l k (by omega)]
    split
    · exact word_before l k (by omega)
    · rename_i hb
      right
      exact ⟨l[k], by simp [List.getElem?_eq_getElem (show k < l.length by omega)], by simpa using hb⟩
theorem word_left (l : List UInt8) : ∀ k, k ≤ l.length → ∀ i, fromW l k ≤ i → i < k → ∃ c, l[i]? = some c ∧ wB c = true
  | 0, _, i, _, h => absurd h (Nat.not_lt_zero i)
  | k + 1, h, i, h1, h2 => by
    rw [fromW_pos l k (by omega)] at h1
    split at h1
    · rename_i hb
      by_cases hik : i = k
      · subst hik; exact ⟨l[i], List.getElem?_eq_getElem _, hb⟩
      · exact word_left l k (by omega) i h1 (by omega)
    · omega
theorem toW_fuel (l : List UInt8) : ∀ d k, k + d = l.length → (toW l k = l.length ∨ ∃ c, l[toW l k]? = some c ∧ wB c = false) ∧ ∀ i, k ≤ i → i < toW l k → ∃ c, l[i]? = some c ∧ wB c = true
  | 0, k, h => by
    rw [toW_over l k (by omega)]
    exact ⟨Or.inl (by omega), fun i h1 h2 => by omega⟩
  | d + 1, k, h => by
    have hk : k < l.length := by omega
    obtain ⟨a, b⟩ := toW_fuel l d (k + 1) (by omega)
    rw [toW_at l k hk]
    split
    · rename_i hb
      refine ⟨a, fun i h1 h2 => ?_⟩
      by_cases hik : i = k
      · subst hik; exact ⟨l[i], List.getElem?_eq_getElem _, hb⟩
      · exact b i (by omega) h2
    · rename_i hb
      exact ⟨Or.inr ⟨l[k], List.getElem?_eq_getElem _, by simpa using hb⟩, fun i h1 h2 => by omega⟩
/-- What the word of a place is. -/
theorem word_is (l : List UInt8) (k : Nat) (hk : k ≤ l.length) : fromW l k ≤ k ∧ k ≤ toW l k ∧ toW l k ≤ l.length ∧
    (fromW l k = 0 ∨ ∃ c, l[fromW l k - 1]? = some c ∧ wB c = false) ∧ (toW l k = l.length ∨ ∃ c, l[toW l k]? = some c ∧ wB c = false) ∧
    ∀ i, fromW l k ≤ i → i < toW l k → ∃ c, l[i]? = some c ∧ wB c = true := by
  obtain ⟨a, b⟩ := toW_fuel l (l.length - k) k (by omega)
  refine ⟨fromW_le l k, toW_ge l k, toW_le l k hk, word_before l k hk, a, fun i h1 h2 => ?_⟩
  by_cases hik : i < k
  · exact word_left l k hk i h1 hik
  · exact b i (by omega) h2
/-- Is there a word at all? -/
theorem word_some (l : List UInt8) (k : Nat) (hk : k ≤ l.length) : decide (fromW l k < toW l k) = (decide (0 < k ∧ ∃ c, l[k - 1]? = some c ∧ wB c = true) || decide (∃ c, l[k]? = some c ∧ wB c = true)) := by
  have h1 := fromW_le l k
  have h2 := toW_ge l k
  have e1 : (fromW l k < k) ↔ (0 < k ∧ ∃ c, l[k - 1]? = some c ∧ wB c = true) := by
    cases k with
    | zero => simp [fromW]
    | succ n =>
      have hn : n < l.length := by omega
      rw [fromW_pos l n hn]
      have := fromW_le l n
      by_cases hb : wB l[n] = true
      · rw [if_pos hb]; exact ⟨fun _ => ⟨by omega, l[n], by simp [List.getElem?_eq_getElem hn], hb⟩, fun _ => by omega⟩
      · rw [if_neg hb]
        refine ⟨fun h => by omega, fun ⟨_, c, hc, hw⟩ => ?_⟩
        simp [List.getElem?_eq_getElem hn] at hc
        rw [hc] at hb; exact absurd hw hb
  have e2 : (k < toW l k) ↔ ∃ c, l[k]? = some c ∧ wB c = true := by
    by_cases hlt : k < l.length
    · rw [toW_at l k hlt]
      have := toW_ge l (k + 1)
      by_cases hb : wB l[k] = true
      · rw [if_pos hb]; exact ⟨fun _ => ⟨l[k], List.getElem?_eq_getElem _, hb⟩, fun _ => by omega⟩
      · rw [if_neg hb]
        refine ⟨fun h => by omega, fun ⟨c, hc, hw⟩ => ?_⟩
        rw [List.getElem?_eq_getElem hlt] at hc
        cases hc; exact absurd hw hb
    · rw [toW_over l k (by omega)]
      refine ⟨fun h => by omega, fun ⟨c, hc, _⟩ => ?_⟩
      have := (List.getElem?_eq_some_iff.1 hc).1; omega
  rw [Bool.eq_iff_iff, Bool.or_eq_true, decide_eq_true_iff, decide_eq_true_iff, decide_eq_true_iff, ← e1, ← e2]
  omega
end Go.Gim

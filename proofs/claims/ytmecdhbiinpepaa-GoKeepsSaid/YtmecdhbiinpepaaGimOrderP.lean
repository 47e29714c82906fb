/- What order does, plain: what is in order stays; each selection lies in one that is told; carets stay carets. Conditions: none. -/
import Derived.Test.YtmecdhbiinpepaaGimPackI
namespace Go.Gim

/-- x begins no later than y. -/
def rF (x y : Int × Int) : Prop := (spanI x).1 ≤ (spanI y).1
/-- x ends ahead of where y begins. -/
def rS (x y : Int × Int) : Prop := (spanI x).2 < (spanI y).1
theorem spanI_le (x : Int × Int) : (spanI x).1 ≤ (spanI x).2 := by unfold spanI; simp only; omega
theorem lessS_yes {x y : Int × Int} (h : lessS x y = true) : rF x y := by unfold lessS lessB at h; rw [decide_eq_true_eq] at h; unfold rF; omega
theorem lessS_no {x y : Int × Int} (h : lessS x y = false) : rF y x := by unfold lessS lessB at h; rw [decide_eq_false_iff_not] at h; unfold rF; omega

theorem place_yes {α : Type} (less : α → α → Bool) (x : α) (out : List α) : ∀ (k j : Nat) (y : α), place less x out k ≤ j → j < k → out[j]? = some y → less x y = true := by
  intro k
  induction k with
  | zero => intro j y _ h; omega
  | succ k ih =>
    intro j y h1 h2 h3
    unfold place at h1
    split at h1
    · rename_i z hz
      split at h1
      · rename_i hl
        by_cases hjk : j = k
        · subst hjk; rw [hz] at h3; cases h3; exact hl
        · exact ih j y h1 (by omega) h3
      · omega
    · omega
theorem place_no {α : Type} (less : α → α → Bool) (x : α) (out : List α) : ∀ (k j : Nat) (y : α), place less x out k = j + 1 → k ≤ out.length → out[j]? = some y → less x y = false := by
  intro k
  induction k with
  | zero => intro j y h; cases h
  | succ k ih =>
    intro j y h1 h2 h3
    unfold place at h1
    split at h1
    · rename_i z hz
      split at h1
      · exact ih j y h1 (by omega) h3
      · rename_i hl
        obtain rfl : k = j := by omega
        rw [hz] at h3; cases h3; simpa using hl
    · rename_i hz
      rw [List.getElem?_eq_getElem (by omega)] at hz; cases hz

theorem insR_rF {out : List (Int × Int)} (h : out.Pairwise rF) (x : Int × Int) : (insR lessS out x).Pairwise rF := by
  have hle := place_le lessS x out out.length
  have h1 := place_yes lessS x out out.length
  have h2 := place_no lessS x out out.length
  unfold insR
  generalize place lessS x out out.length = K at *
  have hsplit : (out.take K ++ out.drop K).Pairwise rF := by rw [List.take_append_drop]; exact h
  rw [List.pairwise_append] at hsplit
  obtain ⟨p1, p2, p3⟩ := hsplit
  have hx1 : ∀ y ∈ out.drop K, rF x y := by
    intro y hy
    obtain ⟨i, hi, rfl⟩ := List.getElem_of_mem hy
    rw [List.length_drop] at hi
    exact lessS_yes (h1 (K + i) _ (by omega) (by omega) (by rw [List.getElem_drop]; exact List.getElem?_eq_getElem (by omega)))
  have hx2 : ∀ y ∈ out.take K, rF y x := by
    intro y hy
    cases K with
    | zero => simp at hy
    | succ j =>
      have hl := lessS_no (h2 j (out[j]'(by omega)) rfl (Nat.le_refl _) (List.getElem?_eq_getElem _))
      rw [List.take_succ_eq_append_getElem (by omega)] at hy p1
      rcases List.mem_append.1 hy with hm | hm
      · have := (List.pairwise_append.1 p1).2.2 y hm _ (List.mem_singleton.2 rfl)
        unfold rF at *; omega
      · rw [List.mem_singleton.1 hm]; exact hl
  rw [List.pairwise_append]
  refine ⟨p1, List.pairwise_cons.2 ⟨hx1, p2⟩, ?_⟩
  intro a ha b hb
  rcases List.mem_cons.1 hb with rfl | hb
  · exact hx2 a ha
  · exact p3 a ha b hb
theorem sorted_rF (l : List (Int × Int)) : (sorted lessS l).Pairwise rF := by
  have : ∀ (l out : List (Int × Int)), out.Pairwise rF → (l.foldl (insR lessS) out).Pairwise rF := by
    intro l
    induction l with
    | nil => intro out h; exact h
    | cons x r ih => intro out h; exact ih _ (insR_rF h x)
  exact this l [] List.Pairwise.nil

theorem touch_sorted {a s : Int × Int} (h : rF a s) : touchB (spanI a) (spanI s) = decide ((spanI s).1 ≤ (spanI a).2) := by
  have := spanI_le a
  have := spanI_le s
  unfold rF at h
  unfold touchB
  rw [decide_eq_decide]; omega

/-- x lies in y. -/
def inS (x y : Int × Int) : Prop := (spanI y).1 ≤ (spanI x).1 ∧ (spanI x).2 ≤ (spanI y).2
theorem inS_refl (x : Int × Int) : inS x x := ⟨Int.le_refl _, Int.le_refl _⟩
theorem inS_trans {x y z : Int × Int} (h : inS x y) (k : inS y z) : inS x z := by unfold inS at *; omega

theorem fuse_in {a s : Int × Int} (h : rF a s) : inS a (fuse a s) ∧ inS s (fuse a s) := by
  unfold inS rF at *; rw [spanI_fuse]; simp only; omega

/-- A round of merging what rises. -/
theorem mergeS_step {out : List (Int × Int)} {s : Int × Int} (h : out.Pairwise rS) (hs : ∀ y ∈ out, rF y s) :
    (mergeS out s).Pairwise rS ∧ (∀ t, rF s t → (∀ y ∈ out, rF y t) → ∀ y ∈ mergeS out s, rF y t) ∧ (∀ z, z ∈ out ∨ z = s → ∃ y ∈ mergeS out s, inS z y) := by
  unfold mergeS
  cases ho : out.getLast? with
  | none =>
    obtain rfl : out = [] := List.getLast?_eq_none_iff.1 ho
    refine ⟨by simp, fun t ht _ y hy => ?_, fun z hz => ?_⟩
    · simp at hy; subst hy; exact ht
    · rcases hz with hz | rfl
      · cases hz
      · exact ⟨z, by simp, inS_refl z⟩
  | some a =>
    obtain ⟨l, rfl⟩ := List.getLast?_eq_some_iff.1 ho
    rw [List.pairwise_append] at h
    obtain ⟨p1, _, p3⟩ := h
    have has := hs a (by simp)
    simp only
    by_cases ht : touchB (spanI a) (spanI s) = true
    · rw [if_pos ht, List.dropLast_concat]
      have hf := fuse_in has
      refine ⟨?_, fun t hst ht2 y hy => ?_, fun z hz => ?_⟩
      · rw [List.pairwise_append]
        refine ⟨p1, by simp, fun y hy b hb => ?_⟩
        rw [List.mem_singleton.1 hb]
        have := p3 y hy a (by simp)
        unfold rS at *; rw [spanI_fuse]; exact this
      · rcases List.mem_append.1 hy with hy | hy
        · exact ht2 y (by simp [hy])
        · rw [List.mem_singleton.1 hy]
          have := ht2 a (by simp)
          unfold rF at *; rw [spanI_fuse]; exact this
      · rcases hz with hz | rfl
        · rcases List.mem_append.1 hz with hz | hz
          · exact ⟨z, by simp [hz], inS_refl z⟩
          · rw [List.mem_singleton.1 hz]; exact ⟨_, by simp, hf.1⟩
        · exact ⟨_, by simp, hf.2⟩
    · rw [if_neg ht]
      have ht : touchB (spanI a) (spanI s) = false := by simpa using ht
      rw [touch_sorted has, decide_eq_false_iff_not] at ht
      refine ⟨?_, fun t hst ht2 y hy => ?_, fun z hz => ?_⟩
      · rw [List.pairwise_append]
        refine ⟨List.pairwise_append.2 ⟨p1, by simp, p3⟩, by simp, fun y hy b hb => ?_⟩
        rw [List.mem_singleton.1 hb]
        rcases List.mem_append.1 hy with hy | hy
        · have := p3 y hy a (by simp)
          have := spanI_le a
          unfold rS rF at *; omega
        · rw [List.mem_singleton.1 hy]; unfold rS; omega
      · rcases List.mem_append.1 hy with hy | hy
        · exact ht2 y hy
        · rw [List.mem_singleton.1 hy]; exact hst
      · rcases hz with hz | rfl
        · exact ⟨z, List.mem_append_left _ hz, inS_refl z⟩
        · exact ⟨z, by simp, inS_refl z⟩

theorem merged_step : ∀ (l out : List (Int × Int)), l.Pairwise rF → out.Pairwise rS → (∀ y ∈ out, ∀ t ∈ l, rF y t) →
    (l.foldl mergeS out).Pairwise rS ∧ ∀ z, z ∈ out ∨ z ∈ l → ∃ y ∈ l.foldl mergeS out, inS z y := by
  intro l
  induction l with
  | nil => intro out _ ho _; exact ⟨ho, fun z hz => ⟨z, by simpa using hz, inS_refl z⟩⟩
  | cons s r ih =>
    intro out hl ho hx
    rw [List.pairwise_cons] at hl
    obtain ⟨m1, m2, m3⟩ := mergeS_step ho (fun y hy => hx y hy s (by simp))
    obtain ⟨n1, n2⟩ := ih (mergeS out s) hl.2 m1 (fun y hy t ht => m2 t (hl.1 t ht) (fun y hy => hx y hy t (by simp [ht])) y hy)
    refine ⟨n1, fun z hz => ?_⟩
    have h1 : z ∈ r ∨ (z ∈ out ∨ z = s) := by
      rcases hz with h | h
      · exact .inr (.inl h)
      · rcases List.mem_cons.1 h with h | h
        · exact .inr (.inr h)
        · exact .inl h
    rcases h1 with h | h
    · exact n2 z (.inr h)
    · obtain ⟨y, hy, hin⟩ := m3 z h
      obtain ⟨y2, hy2, hin2⟩ := n2 y (.inl hy)
      exact ⟨y2, hy2, inS_trans hin hin2⟩
theorem orderN_rS (l : List (Int × Int)) : (orderN l).Pairwise rS := (merged_step _ [] (sorted_rF l) List.Pairwise.nil (by simp)).1
theorem orderN_cover {l : List (Int × Int)} {z : Int × Int} (h : z ∈ l) : ∃ y ∈ orderN l, inS z y :=
  (merged_step _ [] (sorted_rF l) List.Pairwise.nil (by simp)).2 z (.inr ((sorted_mem lessS l z).2 h))

theorem insR_end {out : List (Int × Int)} {x : Int × Int} (h : ∀ y ∈ out, rS y x) : insR lessS out x = out ++ [x] := by
  have hp : place lessS x out out.length = out.length := by
    cases hn : out.length with
    | zero => rfl
    | succ k =>
      have hk : k < out.length := by omega
      rw [place.eq_2, List.getElem?_eq_getElem hk]
      have hl : lessS x out[k] = false := by
        have h1 := h out[k] (List.getElem_mem hk)
        have := spanI_le out[k]
        unfold rS at h1
        unfold lessS lessB; rw [decide_eq_false_iff_not]; omega
      simp only [hl]; rfl
  unfold insR; rw [hp, List.take_of_length_le (Nat.le_refl _), List.drop_of_length_le (Nat.le_refl _)]
theorem rS_sorted : ∀ (l out : List (Int × Int)), (out ++ l).Pairwise rS → l.foldl (insR lessS) out = out ++ l := by
  intro l
  induction l with
  | nil => intro out _; simp
  | cons x r ih =>
    intro out h
    rw [List.foldl_cons, insR_end (fun y hy => (List.pairwise_append.1 h).2.2 y hy x (by simp)), ih _ (by rw [List.append_assoc]; exact h), List.append_assoc]; rfl
theorem rS_merged : ∀ (l out : List (Int × Int)), (out ++ l).Pairwise rS → l.foldl mergeS out = out ++ l := by
  intro l
  induction l with
  | nil => intro out _; simp
  | cons x r ih =>
    intro out h
    have hm : mergeS out x = out ++ [x] := by
      unfold mergeS
      cases ho : out.getLast? with
      | none => rfl
      | some a =>
        have ha : a ∈ out := List.mem_of_getLast? ho
        have h1 := (List.pairwise_append.1 h).2.2 a ha x (by simp)
        have := spanI_le a
        have := spanI_le x
        unfold rS at h1
        have ht : touchB (spanI a) (spanI x) = false := by unfold touchB; rw [decide_eq_false_iff_not]; omega
        simp only [ht]; rfl
    rw [List.foldl_cons, hm, ih _ (by rw [List.append_assoc]; exact h), List.append_assoc]; rfl
/-- What is in order stays as it is. -/
theorem orderN_again (l : List (Int × Int)) : orderN (orderN l) = orderN l := by
  have h := orderN_rS l
  generalize orderN l = L at *
  have e1 : sorted lessS L = L := rS_sorted L [] h
  have e2 : merged L = L := rS_merged L [] h
  unfold orderN; rw [e1, e2]
/-- Carets, in order, are carets. -/
theorem orderN_carets {l : List (Int × Int)} (h : ∀ x ∈ l, x.1 = x.2) : ∀ x ∈ orderN l, x.1 = x.2 := by
  have : ∀ (l out : List (Int × Int)), (∀ x ∈ out, x.1 = x.2) → (∀ x ∈ l, x.1 = x.2) → ∀ x ∈ l.foldl mergeS out, x.1 = x.2 := by
    intro l
    induction l with
    | nil => intro out ho _; exact ho
    | cons s r ih =>
      intro out ho hl
      refine ih (mergeS out s) ?_ (fun x hx => hl x (by simp [hx]))
      have hs := hl s (by simp)
      unfold mergeS
      cases hg : out.getLast? with
      | none =>
        intro x hx
        rcases List.mem_append.1 hx with hx | hx
        · exact ho x hx
        · rw [List.mem_singleton.1 hx]; exact hs
      | some a =>
        obtain ⟨t, rfl⟩ := List.getLast?_eq_some_iff.1 hg
        have ha := ho a (by simp)
        simp only
        split
        · rename_i ht
          unfold touchB at ht
          rw [decide_eq_true_eq] at ht
          intro x hx
          rw [List.dropLast_concat] at hx
          rcases List.mem_append.1 hx with hx | hx
          · exact ho x (by simp [hx])
          · rw [List.mem_singleton.1 hx]
            unfold fuse
            unfold spanI at *
            simp only at ht
            split <;> simp only <;> omega
        · intro x hx
          rcases List.mem_append.1 hx with hx | hx
          · exact ho x hx
          · rw [List.mem_singleton.1 hx]; exact hs
  exact this _ [] (by simp) (fun x hx => h x ((sorted_mem lessS l x).1 hx))

/-- What the law of motion says of selections that are in order. -/
theorem go_keeps {t : List UInt8} {way : Int} {l : List (Int × Int)} (h1 : 1 ≤ way) (h2 : way ≤ 10) (hL : normE t.length l = 0) :
    goE t.length way (normL t.length l) = 0 ∧ (∀ ext, 0 < (goL t way ext (normL t.length l)).length ∧ (goL t way ext (normL t.length l)).length ≤ (normL t.length l).length) ∧
    (∀ x ∈ normL t.length l, ∃ y ∈ goL t way true (normL t.length l), (spanI y).1 ≤ x.1 ∧ x.1 ≤ (spanI y).2) ∧
    ∀ y ∈ goL t way false (normL t.length l), y.1 = y.2 := by
  obtain ⟨k0, k1, k2⟩ := normE_ok hL
  have hlen := normL_len t.length l
  have hin := normL_in (n := t.length) (l := l)
  have hpos : 0 < (normL t.length l).length := by rw [normL_ok hL]; exact orderN_pos k0
  have hag : orderN (normL t.length l) = normL t.length l := by rw [normL_ok hL]; exact orderN_again l
  generalize normL t.length l = L at *
  have hE : normE t.length L = 0 := normE_yes hpos (by omega) hin
  have hgE : goE t.length way L = 0 := by unfold goE; rw [if_pos ⟨h1, h2⟩]; exact hE
  have hLL : normL t.length L = L := by rw [normL_ok hE]; exact hag
  have hgo : ∀ ext, goL t way ext L = orderN (L.map (turned t way ext)) := by
    intro ext
    unfold goL
    rw [if_pos hgE, hLL, normL_ok]
    have := go_again (way := way) (ext := ext) hE
    rwa [hLL] at this
  refine ⟨hgE, fun ext => ⟨?_, ?_⟩, fun x hx => ?_, fun y hy => ?_⟩
  · rw [hgo]; exact orderN_pos (by rw [List.length_map]; exact hpos)
  · rw [hgo]; have := orderN_len (L.map (turned t way ext)); rwa [List.length_map] at this
  · rw [hgo]
    obtain ⟨y, hy, hi⟩ := orderN_cover (l := L.map (turned t way true)) (z := turned t way true x) (List.mem_map.2 ⟨x, hx, rfl⟩)
    refine ⟨y, hy, ?_⟩
    unfold inS turned at hi
    unfold spanI at *
    simp only [if_true] at hi
    simp only
    omega
  · rw [hgo] at hy
    refine orderN_carets (fun z hz => ?_) y hy
    obtain ⟨x, _, rfl⟩ := List.mem_map.1 hz
    rfl
end Go.Gim

/- A path's directory, file, base; what a place gives by those names: plainly. Conditions: none. -/
import Derived.Test.YtmecdhbiinpepaaDoorGimWordP
namespace Go.Gim
theorem getV_append (n : ByteArray) (b : List Pv) : ∀ a : List Pv, getV n (a ++ b) = (getV n a).or (getV n b)
  | [] => rfl
  | x :: r => by
    rw [List.cons_append]
    by_cases h : x.1 = n
    · simp [getV, h]
    · simp [getV, h, getV_append n b r]
theorem lastN_is (l : List UInt8) (c : UInt8) : ∀ k, k ≤ l.length → (0 < lastN l c k → l[lastN l c k - 1]? = some c) ∧ ∀ i, lastN l c k ≤ i → i < k → ∃ b, l[i]? = some b ∧ b ≠ c
  | 0, _ => ⟨fun h => absurd h (Nat.lt_irrefl _), fun i _ h => absurd h (Nat.not_lt_zero i)⟩
  | k + 1, h => by
    obtain ⟨a, b⟩ := lastN_is l c k (by omega)
    have hk : k < l.length := by omega
    rw [lastN_pos l c k hk]
    split
    · rename_i hc
      refine ⟨fun _ => by rw [Nat.add_sub_cancel, List.getElem?_eq_getElem hk, hc], fun i h1 h2 => by omega⟩
    · rename_i hc
      refine ⟨a, fun i h1 h2 => ?_⟩
      by_cases hik : i = k
      · subst hik; exact ⟨l[i], List.getElem?_eq_getElem _, hc⟩
      · exact b i h1 (by omega)
theorem lastN_byte (p : ByteArray) (j : Nat) (h : j < p.size) : (p[j] = 47 → lastN p.data.toList 47 (j + 1) = j + 1) ∧ (p[j] ≠ 47 → lastN p.data.toList 47 (j + 1) = lastN p.data.toList 47 j) ∧ (0 < lastN p.data.toList 47 j → 0 < lastN p.data.toList 47 (j + 1)) := by
  have hl := lastN_pos p.data.toList 47 j (by rw [toList_length]; exact h)
  refine ⟨fun e => hl.trans (if_pos e), fun e => hl.trans (if_neg e), fun e => ?_⟩
  rw [hl]
  split
  · omega
  · exact e
theorem whole_slash (p : ByteArray) (h : 0 < lastN p.data.toList 47 p.size) : dirOf p ++ ⟨#[47]⟩ ++ fileOf p = p := by
  have hle := lastN_le p.data.toList 47 p.size
  have hc := (lastN_is p.data.toList 47 p.size (Nat.le_refl _)).1 h
  have hlen : p.data.toList.length = p.size := rfl
  unfold dirOf fileOf
  generalize lastN p.data.toList 47 p.size = L at *
  have e : p.data.toList = (p.data.toList.take (L - 1)) ++ [47] ++ (p.data.toList.drop L) := by
    obtain ⟨hlt, hb⟩ := List.getElem?_eq_some_iff.1 hc
    have h1 : p.data.toList.take L = p.data.toList.take (L - 1) ++ [47] := by
      obtain ⟨m, rfl⟩ : ∃ m, L = m + 1 := ⟨L - 1, by omega⟩
      rw [List.take_succ_eq_append_getElem (by omega)]
      simp only [Nat.add_sub_cancel] at hb ⊢
      rw [hb]
    rw [← h1, List.take_append_drop]
  rw [extract_bs, extract_bs]
  have e2 : (bs ((p.data.toList.drop 0).take (L - 1 - 0)) ++ ⟨#[47]⟩ ++ bs ((p.data.toList.drop L).take (p.size - L))).data.toList = p.data.toList := by
    simp only [ByteArray.data_append, Array.toList_append, bs_toList, List.drop_zero, Nat.sub_zero]
    rw [List.take_of_length_le (l := p.data.toList.drop L) (by rw [List.length_drop]; omega)]
    exact e.symm
  generalize bs ((p.data.toList.drop 0).take (L - 1 - 0)) ++ ⟨#[47]⟩ ++ bs ((p.data.toList.drop L).take (p.size - L)) = X at e2 ⊢
  rcases X with ⟨⟨x⟩⟩; rcases p with ⟨⟨y⟩⟩; cases e2; rfl
theorem whole_none (p : ByteArray) (h : lastN p.data.toList 47 p.size = 0) : fileOf p = p ∧ dirOf p = ⟨#[]⟩ := by
  unfold fileOf dirOf
  rw [h]
  exact ⟨ByteArray.extract_zero_size, by simp; rfl⟩
theorem file_no (p : ByteArray) : ∀ (V : ByteArray), fileOf p = V → ∀ (q : Nat) (h : q < V.size), V[q] ≠ 47 := by
  intro V hV q h
  unfold fileOf at hV
  have hle := lastN_le p.data.toList 47 p.size
  have hl := lastN_is p.data.toList 47 p.size (Nat.le_refl _)
  generalize lastN p.data.toList 47 p.size = L at *
  subst hV
  have hz : (p.extract L p.size).size = p.size - L := by rw [ByteArray.size_extract]; omega
  obtain ⟨b, hb, hn⟩ := hl.2 (L + q) (by omega) (by omega)
  have hlt : L + q < p.size := by omega
  rw [List.getElem?_eq_getElem (by rw [toList_length]; exact hlt), toList_get p _ hlt] at hb
  cases hb
  rw [ByteArray.getElem_extract]; exact hn
theorem base_is (f : ByteArray) : (baseOf f).size ≤ f.size ∧ f.extract 0 (baseOf f).size = baseOf f ∧ (baseOf f ≠ ⟨#[]⟩ ∨ f = ⟨#[]⟩) := by
  have hle := lastN_le f.data.toList 46 f.size
  unfold baseOf
  by_cases h : 1 < lastN f.data.toList 46 f.size
  · rw [if_pos h]
    have hz : (f.extract 0 (lastN f.data.toList 46 f.size - 1)).size = lastN f.data.toList 46 f.size - 1 := by rw [ByteArray.size_extract]; omega
    refine ⟨by omega, by rw [hz], Or.inl (fun e => ?_)⟩
    rw [e] at hz
    have : (ByteArray.mk #[]).size = 0 := rfl
    omega
  · rw [if_neg h]
    refine ⟨Nat.le_refl _, ByteArray.extract_zero_size, ?_⟩
    by_cases hf : f = ⟨#[]⟩
    · exact Or.inr hf
    · exact Or.inl hf
def filN : ByteArray := ⟨#[84, 77, 95, 70, 73, 76, 69, 78, 65, 77, 69]⟩
def basN : ByteArray := ⟨#[84, 77, 95, 70, 73, 76, 69, 78, 65, 77, 69, 95, 66, 65, 83, 69]⟩
def dirN : ByteArray := ⟨#[84, 77, 95, 68, 73, 82, 69, 67, 84, 79, 82, 89]⟩
/-- The variables of VarsAhead. -/
def ahdE (p v : ByteArray) : List Pv := [(curN, v), (selN, v), (pathN, p), (filN, v)]
theorem ahead_gets (l : List UInt8) (k : Nat) (p v : ByteArray) :
    getV curN (placeL l ((k : Int), (k : Int)) (ahdE p v)) = some (ltAt l k) ∧ getV selN (placeL l ((k : Int), (k : Int)) (ahdE p v)) = some v ∧
    getV dirN (placeL l ((k : Int), (k : Int)) (ahdE p v)) = some (dirOf p) ∧ getV filN (placeL l ((k : Int), (k : Int)) (ahdE p v)) = some (fileOf p) ∧
    getV basN (placeL l ((k : Int), (k : Int)) (ahdE p v)) = some (baseOf (fileOf p)) ∧ (placeL l ((k : Int), (k : Int)) (ahdE p v)).length ≤ 100 ∧ getV pathN (ahdE p v) = some p := by
  have e0 : selP (bs (cut l (spanI ((k : Int), (k : Int))).1 (spanI ((k : Int), (k : Int))).2)) = [] := by
    have : bs (cut l (spanI ((k : Int), (k : Int))).1 (spanI ((k : Int), (k : Int))).2) = ⟨#[]⟩ := by
      have h : cut l (spanI ((k : Int), (k : Int))).1 (spanI ((k : Int), (k : Int))).2 = [] := by
        apply List.eq_nil_of_length_eq_zero
        rw [cut_len]
        simp only [spanI]
        omega
      rw [h]; rfl
    rw [this]; exact if_pos rfl
  have e9 : getV pathN (ahdE p v) = some p := rfl
  have hw := wordP_len (wdAt l k)
  have w1 : getV curN (wordP (wdAt l k)) = none := by unfold wordP; split <;> rfl
  have w2 : getV selN (wordP (wdAt l k)) = none := by unfold wordP; split <;> rfl
  have w3 : getV dirN (wordP (wdAt l k)) = none := by unfold wordP; split <;> rfl
  have w4 : getV filN (wordP (wdAt l k)) = none := by unfold wordP; split <;> rfl
  have w5 : getV basN (wordP (wdAt l k)) = none := by unfold wordP; split <;> rfl
  unfold placeL
  rw [e0, e9, show (((k : Int), (k : Int)) : Int × Int).2.toNat = k from Int.toNat_natCast k]
  simp only [getV_append, w1, w2, w3, w4, w5]
  refine ⟨rfl, rfl, rfl, rfl, rfl, ?_, trivial⟩
  simp only [List.length_append, List.length_cons, List.length_nil, pathP, fileL, ahdE]
  omega
end Go.Gim

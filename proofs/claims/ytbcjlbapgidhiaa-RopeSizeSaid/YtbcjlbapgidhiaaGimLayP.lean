/- Stretches of a list, and of a tree's text: plain facts. Conditions: none. -/
import Derived.Test.YtbcjlbapgidhiaaGimTreeP
namespace Go.Gim

/-- The stretch from f up to t. -/
def cut {α : Type} (l : List α) (f t : Int) : List α := (l.take t.toNat).drop f.toNat

theorem cut_len {α : Type} (l : List α) (f t : Int) : (cut l f t).length = min t.toNat l.length - f.toNat := by simp [cut]
theorem cut_none {α : Type} (l : List α) (f t : Int) (h : t ≤ f) : cut l f t = [] := by
  apply List.eq_nil_of_length_eq_zero; rw [cut_len]; omega
theorem cut_out {α : Type} (l : List α) (f t : Int) (h : (l.length : Int) ≤ f) : cut l f t = [] := by
  apply List.eq_nil_of_length_eq_zero; rw [cut_len]; omega
theorem cut_all {α : Type} (l : List α) : cut l 0 l.length = l := by simp [cut]
theorem cut_append {α : Type} (a b : List α) (f t : Int) (hf : 0 ≤ f) : cut (a ++ b) f t = cut a f t ++ cut b (f - a.length) (t - a.length) := by
  unfold cut
  rw [List.take_append, List.drop_append, List.length_take]
  congr 1
  rw [show (t - (a.length : Int)).toNat = t.toNat - a.length from by omega]
  by_cases h : t.toNat ≤ a.length
  · rw [show t.toNat - a.length = 0 from by omega]; simp
  · congr 1; omega
theorem cut_to {α : Type} (l : List α) (f t u : Int) (h : min t l.length = min u l.length) (h0 : 0 ≤ t) (h1 : 0 ≤ u) : cut l f t = cut l f u := by
  unfold cut
  congr 1
  by_cases h2 : t.toNat ≤ l.length
  · by_cases h3 : u.toNat ≤ l.length
    · congr 1; omega
    · rw [List.take_of_length_le (by omega), List.take_of_length_le (by omega)]
  · rw [List.take_of_length_le (by omega), List.take_of_length_le (by omega)]
theorem cut_from {α : Type} (l : List α) (f g t : Int) (h : f.toNat = g.toNat) : cut l f t = cut l g t := by unfold cut; rw [h]
theorem cut_cut {α : Type} (l : List α) (a b f t : Int) (h0 : 0 ≤ a) (h1 : 0 ≤ f) (h2 : a + t ≤ b) (h3 : 0 ≤ t) : cut (cut l a b) f t = cut l (a + f) (a + t) := by
  unfold cut
  rw [List.take_drop, List.drop_drop, List.take_take]
  rw [show (a + f).toNat = a.toNat + f.toNat from by omega]
  congr 2
  omega

/-- What lay lays in a node: to the left, itself, to the right. -/
theorem cut_node (L O R : List UInt8) (f t : Int) (hf : 0 ≤ f) :
    cut (L ++ (O ++ R)) f t = cut L f t ++ (cut O (f - L.length) (t - L.length) ++ cut R (f - (L.length + O.length)) (t - (L.length + O.length))) := by
  rw [cut_append _ _ _ _ hf]
  congr 1
  by_cases h : (L.length : Int) ≤ f
  · rw [cut_append _ _ _ _ (by omega)]
    congr 2 <;> omega
  · rw [cut_from (O ++ R) _ 0 _ (by omega), cut_append _ _ _ _ (by omega), cut_from O (f - L.length) 0 _ (by omega)]
    congr 1
    rw [cut_from R (0 - (O.length : Int)) (f - (L.length + O.length)) _ (by omega)]
    congr 1; omega

theorem cut_neg {α : Type} (l : List α) (f t : Int) (h : t ≤ 0) : cut l f t = [] := by
  apply List.eq_nil_of_length_eq_zero; rw [cut_len]; omega
theorem take_drop_cut {α : Type} (l : List α) (i j : Nat) (f t : Int) (hf : f.toNat = i) (ht : t.toNat = j) : (l.drop i).take (j - i) = cut l f t := by
  unfold cut
  rw [hf, ht, List.drop_take]
theorem extract_cut (s : ByteArray) (i j : Nat) (f t : Int) (hf : f.toNat = i) (ht : t.toNat = j) : (s.extract i j).data.toList = cut s.data.toList f t := by
  unfold cut
  rw [ByteArray.data_extract, hf, ht]
  simp [List.extract_eq_take_drop, List.drop_take]

end Go.Gim

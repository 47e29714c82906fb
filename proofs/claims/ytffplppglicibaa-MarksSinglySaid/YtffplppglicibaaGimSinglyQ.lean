/- What MarksSingly makes of its numbers: ranges, edits: plain. Conditions: none. -/
import Derived.Test.YtffplppglicibaaGimSinglyP
import Derived.Test.YtffplppglicibaaGimAdd
namespace Go.Proofs.Ytffplppglicibaa
open Go.RowKit Go.Gim

/-- The i-th range. -/
def rgS (ns : List (Int × Int)) (ps : List Bool) (i : Nat) : Rg :=
  ⟨(lowN (ns.getD i (0, 0)).1 60 : Nat), ((lowN (ns.getD i (0, 0)).1 60 : Nat) : Int) + (lowN (ns.getD i (0, 0)).2 12 : Nat), if 2 * i + 1 < ps.length then ps.getD (2 * i) false else false, if 2 * i + 1 < ps.length then ps.getD (2 * i + 1) false else false, 0⟩
def tabN (ns : List (Int × Int)) (ps : List Bool) (k : Nat) : Tb := (List.range k).map fun (i : Nat) => ((i : Int) + 1, rgS ns ps i)
theorem tabN_len (ns : List (Int × Int)) (ps : List Bool) (k : Nat) : (tabN ns ps k).length = k := by simp [tabN]
theorem tabN_succ (ns : List (Int × Int)) (ps : List Bool) (k : Nat) : tabN ns ps (k + 1) = tabN ns ps k ++ [((k : Int) + 1, rgS ns ps k)] := by
  unfold tabN; rw [List.range_succ, List.map_append]; rfl
theorem tabN_u (ns : List (Int × Int)) (ps : List Bool) (k : Nat) : ∀ x ∈ tabN ns ps k, x.2.u = 0 := by
  intro x hx
  obtain ⟨i, _, rfl⟩ := List.mem_map.1 hx
  rfl
theorem tabN_add (ns : List (Int × Int)) (ps : List Bool) (k : Nat) (h : k < 256) : addE (tabN ns ps k) (rgS ns ps k) = 0 := by
  have h1 := lowN_lt (ns.getD k (0, 0)).1 60 (by omega)
  have h2 := lowN_lt (ns.getD k (0, 0)).2 12 (by omega)
  rw [addE_top (by unfold mayS; refine decide_eq_true ?_; simp only [rgS]; omega) rfl, tabN_len, if_neg (by omega)]
theorem tabN_tok (ns : List (Int × Int)) (ps : List Bool) (k : Nat) (h : k ≤ 256) : Tok (tabN ns ps k) k 65536 := by
  induction k with
  | zero => exact Tok.nil.mono (by omega)
  | succ k ih =>
    have := (ih (by omega)).add (tabN_add ns ps k (by omega)) (by omega) (by omega)
    have e : ((k + 1 : Nat) : Int) = (k : Int) + 1 := by omega
    rw [e, tabN_succ]
    exact this
/-- Where edits begin and end. -/
def atS (gs : List Int) : Nat → Int
  | 0 => 0
  | k + 1 => atS gs k + 1 + (lowN (gs.getD k 0) 6 : Nat) + (lowN (gs.getD k 0 / 8) 5 : Nat)
def fromS (gs : List Int) (k : Nat) : Int := atS gs k + 1 + (lowN (gs.getD k 0) 6 : Nat)
def esS (gs : List Int) (ts : List ByteArray) (k : Nat) : List Ed := (List.range k).map fun (i : Nat) => ⟨fromS gs i, atS gs (i + 1), ts.getD i ByteArray.empty⟩
theorem esS_len (gs : List Int) (ts : List ByteArray) (k : Nat) : (esS gs ts k).length = k := by simp [esS]
theorem esS_succ (gs : List Int) (ts : List ByteArray) (k : Nat) : esS gs ts (k + 1) = esS gs ts k ++ [⟨fromS gs k, atS gs (k + 1), ts.getD k ByteArray.empty⟩] := by
  unfold esS; rw [List.range_succ, List.map_append]; rfl
theorem atS_step (gs : List Int) (k : Nat) : atS gs k + 1 ≤ fromS gs k ∧ fromS gs k ≤ atS gs (k + 1) ∧ atS gs (k + 1) ≤ atS gs k + 10 := by
  have h1 := lowN_lt (gs.getD k 0) 6 (by omega)
  have h2 := lowN_lt (gs.getD k 0 / 8) 5 (by omega)
  unfold fromS
  rw [atS.eq_2]
  omega
theorem atS_bd (gs : List Int) : ∀ k : Nat, 0 ≤ atS gs k ∧ atS gs k ≤ 10 * k := by
  intro k
  induction k with
  | zero => exact ⟨Int.le_refl _, Int.le_refl _⟩
  | succ k ih => have := atS_step gs k; omega
theorem atS_mono (gs : List Int) {i : Nat} : ∀ j, i ≤ j → atS gs i ≤ atS gs j := by
  intro j
  induction j with
  | zero => intro h; have e : i = 0 := by omega
            rw [e]; exact Int.le_refl _
  | succ j ih =>
    intro h
    by_cases e : i = j + 1
    · rw [e]; exact Int.le_refl _
    · have := ih (by omega)
      have := atS_step gs j
      omega
theorem esS_asc (gs : List Int) (ts : List ByteArray) (k : Nat) : Asc (esS gs ts k) := by
  constructor
  · intro e he
    obtain ⟨i, _, rfl⟩ := List.mem_map.1 he
    have := atS_step gs i
    simp only
    omega
  · unfold esS
    rw [List.pairwise_map]
    refine List.Pairwise.imp ?_ (List.pairwise_lt_range)
    intro i j hij
    have := atS_mono gs (i := i + 1) j hij
    have := atS_step gs j
    simp only
    omega
theorem esS_mem (gs : List Int) (ts : List ByteArray) {k : Nat} (hk : k ≤ 1000) : ∀ e ∈ esS gs ts k, 0 ≤ e.a ∧ e.b ≤ 65536 := by
  intro e he
  obtain ⟨i, hi, rfl⟩ := List.mem_map.1 he
  have hi := List.mem_range.1 hi
  have := atS_bd gs i
  have := atS_step gs i
  simp only
  omega
end Go.Proofs.Ytffplppglicibaa

/- Slices of pairs of integers (selections, stretches, [2]int) as they come in: how a row of them is read. Conditions: none. -/
import Derived.Test.YthlmgoagnfkhdaaGreatGimG08
import Derived.Test.YthlmgoagnfkhdaaGreatGimG02
import Derived.Lib.SmallJoins
import Derived.OpenShut
set_option maxHeartbeats 6400000
set_option maxRecDepth 1000000
set_option linter.unusedVariables false
set_option linter.unusedSimpArgs false
namespace Go.Gim
open Go Go.RowKit
def prCells1 (x : Int × Int) : List Value := [.int .i64 x.1, .int .i64 x.2]
def prCells (L : List (Int × Int)) : List Value := (L.map prCells1).flatten
theorem prCells_cons (x : Int × Int) (r : List (Int × Int)) : prCells (x :: r) = .int .i64 x.1 :: .int .i64 x.2 :: prCells r := rfl
theorem prCells_len (L : List (Int × Int)) : (prCells L).length = L.length * 2 := by
 induction L with
 | nil => rfl
 | cons x r ih => rw [prCells_cons]; simp only [List.length_cons, ih]; omega
theorem prCells_append (a b : List (Int × Int)) : prCells (a ++ b) = prCells a ++ prCells b := by
 unfold prCells; rw [List.map_append, List.flatten_append]
theorem prCells_at (L : List (Int × Int)) : ∀ (i : Nat) (x : Int × Int), L[i]? = some x → (prCells L)[i * 2]? = some (.int .i64 x.1) ∧ (prCells L)[i * 2 + 1]? = some (.int .i64 x.2) := by
 induction L with
 | nil => intro i x h; simp at h
 | cons y r ih =>
  intro i x h
  cases i with
  | zero => simp at h; subst h; exact ⟨rfl, rfl⟩
  | succ i =>
   have := ih i x (by simpa using h)
   rw [prCells_cons, show (i + 1) * 2 = i * 2 + 1 + 1 from by omega]
   exact this
theorem prCells_one (L : List (Int × Int)) : ∀ u ∈ prCells L, u.oneCell' = true := by
 intro u hu
 obtain ⟨l, hl, hu⟩ := List.mem_flatten.1 hu
 obtain ⟨x, _, rfl⟩ := List.mem_map.1 hl
 simp only [prCells1, List.mem_cons, List.not_mem_nil, or_false] at hu
 rcases hu with rfl | rfl <;> rfl
theorem reads_pair {w : World} {b off n : Nat} {L : List (Int × Int)} (h : Reads w 2 (some ⟨b, off, none⟩) n (prCells L)) {i : Nat} {x : Int × Int} (hx : L[i]? = some x) :
  w.cell? ⟨b, off + i * 2, none⟩ = some (.int .i64 x.1) ∧ w.cell? ⟨b, off + i * 2 + 1, none⟩ = some (.int .i64 x.2) := by
 have hi := (List.getElem?_eq_some_iff.1 hx).1
 have hl := prCells_len L
 have hn : 0 < n := by have := h.1; omega
 obtain ⟨b', off', he, hc⟩ := h.2 hn
 cases he
 obtain ⟨h1, h2⟩ := prCells_at L i x hx
 exact ⟨by rw [hc _ (by omega)]; exact h1, by rw [Nat.add_assoc, hc _ (by omega)]; exact h2⟩
theorem reads_len {w : World} {ao : Option Addr} {n : Nat} {L : List (Int × Int)} (h : Reads w 2 ao n (prCells L)) : L.length = n := by
 have h1 := h.1; rw [prCells_len] at h1; omega
end Go.Gim
namespace Go.Proofs.YthlmgoagnfkhdaaGreat
open Go.ChangeShapes Go.WideShapes Go.ChangeAt Go.RowKit Go.Gim
end Go.Proofs.YthlmgoagnfkhdaaGreat
namespace Go.Gim
open Go Go.RowKit
theorem prCells_set (l : List (Int × Int)) : ∀ (k : Nat) (x : Int × Int), k < l.length → prCells (l.set k x) = ((prCells l).set (k * 2) (.int .i64 x.1)).set (k * 2 + 1) (.int .i64 x.2) := by
 induction l with
 | nil => intro k x h; simp at h
 | cons y r ih =>
  intro k x h
  cases k with
  | zero => rfl
  | succ k =>
   rw [List.set_cons_succ, prCells_cons, prCells_cons, ih k x (by simpa using h), show (k + 1) * 2 = k * 2 + 1 + 1 from by omega]
   simp
theorem owns_at {w : World} {B g c n : Nat} {T : TypeId} {l : List (Int × Int)} (h : w.ownsRow B T 2 (.slice (some ⟨g, 0, none⟩) n c) n (prCells l)) :
  ∃ cur : Array Value, Blk w g T cur ∧ B ≤ g ∧ n ≤ c ∧ c ≤ maxLen ∧ cur.size = c * 2 ∧ cur.toList.take (n * 2) = prCells l := by
 rcases h.2 with ⟨h1, _⟩ | ⟨g', c', cur, h1, h2, h3, h4, h5, h6, h7⟩
 ·cases h1
 ·cases h1; exact ⟨cur, h3, h2, h4, h5, h6, h7⟩
theorem owns_len {w : World} {B n : Nat} {T : TypeId} {v : Value} {l : List (Int × Int)} (h : w.ownsRow B T 2 v n (prCells l)) : l.length = n := by
 have h1 := h.1; rw [prCells_len] at h1; omega
theorem owns_cell {w : World} {B g c n : Nat} {T : TypeId} {l : List (Int × Int)} (h : w.ownsRow B T 2 (.slice (some ⟨g, 0, none⟩) n c) n (prCells l)) {k : Nat} {x : Int × Int} (hx : l[k]? = some x) :
  w.cell? ⟨g, k * 2, none⟩ = some (.int .i64 x.1) ∧ w.cell? ⟨g, k * 2 + 1, none⟩ = some (.int .i64 x.2) := by
 have h1 := reads_pair (Reads.own h) hx
 simpa using h1
theorem owns_free {w : World} {B g c n : Nat} {T : TypeId} {l : List (Int × Int)} (h : w.ownsRow B T 2 (.slice (some ⟨g, 0, none⟩) n c) n (prCells l)) (k : Nat) : w.frozen? ⟨g, k, none⟩ = false := by
 obtain ⟨cur, hb, _⟩ := owns_at h; exact hb.free k
theorem owns_set {w : World} {B g c n : Nat} {T : TypeId} {l : List (Int × Int)} (h : w.ownsRow B T 2 (.slice (some ⟨g, 0, none⟩) n c) n (prCells l)) (k : Nat) (hk : k < n) (x : Int × Int) :
  ((w.setCell ⟨g, k * 2, none⟩ (.int .i64 x.1)).setCell ⟨g, k * 2 + 1, none⟩ (.int .i64 x.2)).ownsRow B T 2 (.slice (some ⟨g, 0, none⟩) n c) n (prCells (l.set k x)) := by
 have hl := owns_len h
 obtain ⟨cur, hb, hB, h1, h2, h3, h4⟩ := owns_at h
 refine ⟨by rw [prCells_len, List.length_set, hl], .inr ⟨g, c, _, rfl, hB, (hb.set (k * 2) _).set (k * 2 + 1) _, h1, h2, by simp [h3], ?_⟩⟩
 rw [prCells_set l k x (by omega), ← h4]
 simp only [Array.toList_setIfInBounds, List.take_set]
theorem prCells_setA (l : List (Int × Int)) : ∀ (k : Nat) (x : Int × Int) (a : Int), l[k]? = some x → prCells (l.set k (a, x.2)) = (prCells l).set (k * 2) (.int .i64 a) := by
 induction l with
 | nil => intro k x a h; simp at h
 | cons y r ih =>
  intro k x a h
  cases k with
  | zero => simp at h; subst h; rfl
  | succ k =>
   rw [List.set_cons_succ, prCells_cons, prCells_cons, ih k x a (by simpa using h), show (k + 1) * 2 = k * 2 + 1 + 1 from by omega]
   simp
theorem prCells_setB (l : List (Int × Int)) : ∀ (k : Nat) (x : Int × Int) (b : Int), l[k]? = some x → prCells (l.set k (x.1, b)) = (prCells l).set (k * 2 + 1) (.int .i64 b) := by
 induction l with
 | nil => intro k x a h; simp at h
 | cons y r ih =>
  intro k x a h
  cases k with
  | zero => simp at h; subst h; rfl
  | succ k =>
   rw [List.set_cons_succ, prCells_cons, prCells_cons, ih k x a (by simpa using h), show (k + 1) * 2 = k * 2 + 1 + 1 from by omega]
   simp
theorem owns_setA {w : World} {B g c n : Nat} {T : TypeId} {l : List (Int × Int)} (h : w.ownsRow B T 2 (.slice (some ⟨g, 0, none⟩) n c) n (prCells l)) {k : Nat} {x : Int × Int} (hx : l[k]? = some x) (a : Int) :
  (w.setCell ⟨g, k * 2, none⟩ (.int .i64 a)).ownsRow B T 2 (.slice (some ⟨g, 0, none⟩) n c) n (prCells (l.set k (a, x.2))) := by
 have hl := owns_len h
 obtain ⟨cur, hb, hB, h1, h2, h3, h4⟩ := owns_at h
 refine ⟨by rw [prCells_len, List.length_set, hl], .inr ⟨g, c, _, rfl, hB, hb.set (k * 2) _, h1, h2, by simp [h3], ?_⟩⟩
 rw [prCells_setA l k x a hx, ← h4]
 simp only [Array.toList_setIfInBounds, List.take_set]
theorem owns_setB {w : World} {B g c n : Nat} {T : TypeId} {l : List (Int × Int)} (h : w.ownsRow B T 2 (.slice (some ⟨g, 0, none⟩) n c) n (prCells l)) {k : Nat} {x : Int × Int} (hx : l[k]? = some x) (b : Int) :
  (w.setCell ⟨g, k * 2 + 1, none⟩ (.int .i64 b)).ownsRow B T 2 (.slice (some ⟨g, 0, none⟩) n c) n (prCells (l.set k (x.1, b))) := by
 have hl := owns_len h
 obtain ⟨cur, hb, hB, h1, h2, h3, h4⟩ := owns_at h
 refine ⟨by rw [prCells_len, List.length_set, hl], .inr ⟨g, c, _, rfl, hB, hb.set (k * 2 + 1) _, h1, h2, by simp [h3], ?_⟩⟩
 rw [prCells_setB l k x b hx, ← h4]
 simp only [Array.toList_setIfInBounds, List.take_set]
theorem owns_block {w : World} {B g c n : Nat} {T : TypeId} {l : List (Int × Int)} (h : w.ownsRow B T 2 (.slice (some ⟨g, 0, none⟩) n c) n (prCells l)) : B ≤ g ∧ g < w.heap.size := by
 obtain ⟨cur, hb, hB, _⟩ := owns_at h; exact ⟨hB, hb.lt⟩
theorem owns_some {w : World} {B n : Nat} {T : TypeId} {v : Value} {l : List (Int × Int)} (h : w.ownsRow B T 2 v n (prCells l)) (h0 : 0 < n) : ∃ g c, v = .slice (some ⟨g, 0, none⟩) n c := by
 rcases h.2 with ⟨_, h1⟩ | ⟨g', c', cur, h1, _⟩
 ·omega
 ·exact ⟨g', c', h1⟩
theorem owns_nil {w : World} {B : Nat} {T : TypeId} {v : Value} {l : List (Int × Int)} (h : w.ownsRow B T 2 v 0 (prCells l)) : ∃ a c, v = .slice a 0 c := by
 rcases h.2 with ⟨h1, _⟩ | ⟨g', c', cur, h1, _⟩
 ·exact ⟨_, _, h1⟩
 ·exact ⟨_, _, h1⟩
end Go.Gim

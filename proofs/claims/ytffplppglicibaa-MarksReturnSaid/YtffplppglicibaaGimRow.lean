/- Rows of elements of so many cells each, whatever these are: how they are read, as the call's own, a cell stored. Conditions: none. -/
import Derived.Test.YtffplppglicibaaGimBase
import Derived.Test.YtffplppglicibaaGimAppend
namespace Go.Gim
open Go Go.RowKit

/-- How an element lies in a row. -/
structure Enc (α : Type) where
  k : Nat
  pos : 0 < k
  f : α → List Value
  len : ∀ x, (f x).length = k
  one : ∀ x, ∀ u ∈ f x, u.oneCell' = true

section
variable {α : Type} (E : Enc α)

def Enc.cells (L : List α) : List Value := (L.map E.f).flatten
theorem Enc.cells_nil : E.cells [] = [] := rfl
theorem Enc.cells_cons (x : α) (r : List α) : E.cells (x :: r) = E.f x ++ E.cells r := rfl
theorem Enc.cells_single (x : α) : E.cells [x] = E.f x := List.append_nil _
theorem Enc.cells_append (a b : List α) : E.cells (a ++ b) = E.cells a ++ E.cells b := by
  unfold Enc.cells; rw [List.map_append, List.flatten_append]
theorem Enc.cells_len (L : List α) : (E.cells L).length = L.length * E.k := by
  induction L with
  | nil => simp [Enc.cells]
  | cons x r ih => rw [E.cells_cons, List.length_append, E.len, ih, List.length_cons, Nat.add_mul, Nat.one_mul, Nat.add_comm]
theorem Enc.cells_one (L : List α) : ∀ u ∈ E.cells L, u.oneCell' = true := by
  intro u hu
  obtain ⟨l, hl, hu⟩ := List.mem_flatten.1 hu
  obtain ⟨x, _, rfl⟩ := List.mem_map.1 hl
  exact E.one x u hu
theorem Enc.cells_at (L : List α) : ∀ (i : Nat) (x : α) (j : Nat), L[i]? = some x → j < E.k → (E.cells L)[i * E.k + j]? = (E.f x)[j]? := by
  induction L with
  | nil => intro i x j h; simp at h
  | cons y r ih =>
    intro i x j h hj
    cases i with
    | zero =>
      simp at h; subst h
      rw [E.cells_cons, Nat.zero_mul, Nat.zero_add, List.getElem?_append_left (by rw [E.len]; exact hj)]
    | succ i =>
      rw [E.cells_cons, List.getElem?_append_right (by rw [E.len, Nat.add_mul]; omega), E.len, show (i + 1) * E.k + j - E.k = i * E.k + j by rw [Nat.add_mul]; omega]
      exact ih i x j (by simpa using h) hj
theorem Enc.cells_set (L : List α) : ∀ (i : Nat) (x y : α) (j : Nat) (v : Value), L[i]? = some x → j < E.k → E.f y = (E.f x).set j v → E.cells (L.set i y) = (E.cells L).set (i * E.k + j) v := by
  induction L with
  | nil => intro i x y j v h; simp at h
  | cons z r ih =>
    intro i x y j v h hj he
    cases i with
    | zero =>
      simp at h; subst h
      rw [List.set_cons_zero, E.cells_cons, E.cells_cons, he, Nat.zero_mul, Nat.zero_add, List.set_append_left _ _ (by rw [E.len]; exact hj)]
    | succ i =>
      rw [List.set_cons_succ, E.cells_cons, E.cells_cons, ih i x y j v (by simpa using h) hj he, List.set_append_right _ _ (by rw [E.len, Nat.add_mul]; omega), E.len, show (i + 1) * E.k + j - E.k = i * E.k + j by rw [Nat.add_mul]; omega]

variable {E}
theorem Enc.reads_len {w : World} {ao : Option Addr} {n : Nat} {L : List α} (h : Reads w E.k ao n (E.cells L)) : L.length = n := by
  have h1 := h.1; rw [E.cells_len] at h1; exact Nat.eq_of_mul_eq_mul_right E.pos h1
/-- A cell of an element that is read. -/
theorem Enc.reads_at {w : World} {b off n : Nat} {L : List α} (h : Reads w E.k (some ⟨b, off, none⟩) n (E.cells L)) {i : Nat} {x : α} (hx : L[i]? = some x) {j : Nat} {v : Value} (hv : (E.f x)[j]? = some v) :
    w.cell? ⟨b, off + i * E.k + j, none⟩ = some v := by
  have hj : j < E.k := by have := (List.getElem?_eq_some_iff.1 hv).1; rwa [E.len] at this
  have hc := E.cells_at L i x j hx hj
  rw [hv] at hc
  have hlt := (List.getElem?_eq_some_iff.1 hc).1
  have hn : 0 < n := by
    have hi := (List.getElem?_eq_some_iff.1 hx).1
    have := Enc.reads_len h; omega
  obtain ⟨b', off', he, hcl⟩ := h.2 hn
  cases he
  rw [Nat.add_assoc, hcl _ hlt, hc]
theorem Enc.reads_take {w : World} {ao : Option Addr} {n m : Nat} {L : List α} (h : Reads w E.k ao n (E.cells L)) (hm : m ≤ n) : Reads w E.k ao m (E.cells (L.take m)) := by
  have hl := Enc.reads_len h
  refine ⟨by rw [E.cells_len, List.length_take]; congr 1; omega, fun h0 => ?_⟩
  obtain ⟨b, off, rfl, hc⟩ := h.2 (by omega)
  refine ⟨b, off, rfl, fun j hj => ?_⟩
  have e : E.cells L = E.cells (L.take m) ++ E.cells (L.drop m) := by rw [← E.cells_append, List.take_append_drop]
  rw [hc j (by rw [e, List.length_append]; omega), e, List.getElem?_append_left hj]
theorem Enc.reads_drop {w : World} {b off n m : Nat} {L : List α} (h : Reads w E.k (some ⟨b, off, none⟩) n (E.cells L)) (hm : m ≤ n) : Reads w E.k (some ⟨b, off + m * E.k, none⟩) (n - m) (E.cells (L.drop m)) := by
  have hl := Enc.reads_len h
  refine ⟨by rw [E.cells_len, List.length_drop]; congr 1; omega, fun h0 => ?_⟩
  obtain ⟨b', off', he, hc⟩ := h.2 (by omega)
  cases he
  refine ⟨b, off + m * E.k, rfl, fun j hj => ?_⟩
  have e : E.cells L = E.cells (L.take m) ++ E.cells (L.drop m) := by rw [← E.cells_append, List.take_append_drop]
  have et : (E.cells (L.take m)).length = m * E.k := by rw [E.cells_len, List.length_take]; congr 1; omega
  have h1 := hc (m * E.k + j) (by rw [e, List.length_append, et]; omega)
  rw [Nat.add_assoc, h1, e, List.getElem?_append_right (by omega), et, Nat.add_sub_cancel_left]
theorem Enc.reads_none {w : World} {ao : Option Addr} : Reads w E.k ao 0 (E.cells []) := ⟨by simp [Enc.cells], fun h => absurd h (Nat.lt_irrefl _)⟩
theorem Enc.reads_rest {w : World} {g n m vc : Nat} {L : List α} (h : Reads w E.k (some ⟨g, 0, none⟩) n (E.cells L)) (hk : m ≤ n) (hv : n ≤ vc) :
    Reads w E.k (if vc = m then some ⟨g, 0, none⟩ else some ⟨g, m * E.k, none⟩) (n - m) (E.cells (L.drop m)) := by
  split
  · have h0 : n - m = 0 := by omega
    have hl := Enc.reads_len h
    rw [h0, List.drop_of_length_le (by omega)]
    exact Enc.reads_none
  · have := Enc.reads_drop h hk
    rwa [Nat.zero_add] at this

theorem Enc.owns_at {w : World} {B g c n : Nat} {T : TypeId} {l : List α} (h : w.ownsRow B T E.k (.slice (some ⟨g, 0, none⟩) n c) n (E.cells l)) :
    ∃ cur : Array Value, Blk w g T cur ∧ B ≤ g ∧ n ≤ c ∧ c ≤ maxLen ∧ cur.size = c * E.k ∧ cur.toList.take (n * E.k) = E.cells l := by
  rcases h.2 with ⟨h1, _⟩ | ⟨g', c', cur, h1, h2, h3, h4, h5, h6, h7⟩
  · cases h1
  · cases h1; exact ⟨cur, h3, h2, h4, h5, h6, h7⟩
theorem Enc.owns_len {w : World} {B n : Nat} {T : TypeId} {v : Value} {l : List α} (h : w.ownsRow B T E.k v n (E.cells l)) : l.length = n := by
  have h1 := h.1; rw [E.cells_len] at h1; exact Nat.eq_of_mul_eq_mul_right E.pos h1
theorem Enc.owns_cell {w : World} {B g c n : Nat} {T : TypeId} {l : List α} (h : w.ownsRow B T E.k (.slice (some ⟨g, 0, none⟩) n c) n (E.cells l)) {i : Nat} {x : α} (hx : l[i]? = some x) {j : Nat} {v : Value} (hv : (E.f x)[j]? = some v) :
    w.cell? ⟨g, i * E.k + j, none⟩ = some v := by
  have := Enc.reads_at (Reads.own h) hx hv
  rwa [Nat.zero_add] at this
theorem Enc.owns_free {w : World} {B g c n : Nat} {T : TypeId} {l : List α} (h : w.ownsRow B T E.k (.slice (some ⟨g, 0, none⟩) n c) n (E.cells l)) (j : Nat) : w.frozen? ⟨g, j, none⟩ = false := by
  obtain ⟨cur, hb, _⟩ := Enc.owns_at h; exact hb.free j
theorem Enc.owns_block {w : World} {B g c n : Nat} {T : TypeId} {l : List α} (h : w.ownsRow B T E.k (.slice (some ⟨g, 0, none⟩) n c) n (E.cells l)) : B ≤ g ∧ g < w.heap.size := by
  obtain ⟨cur, hb, hB, _⟩ := Enc.owns_at h; exact ⟨hB, hb.lt⟩
theorem Enc.owns_cap {w : World} {B g c n : Nat} {T : TypeId} {l : List α} (h : w.ownsRow B T E.k (.slice (some ⟨g, 0, none⟩) n c) n (E.cells l)) : n ≤ c := by
  obtain ⟨cur, hb, hB, h1, _⟩ := Enc.owns_at h; exact h1
theorem Enc.owns_some {w : World} {B n : Nat} {T : TypeId} {v : Value} {l : List α} (h : w.ownsRow B T E.k v n (E.cells l)) (h0 : 0 < n) : ∃ g c, v = .slice (some ⟨g, 0, none⟩) n c := by
  rcases h.2 with ⟨_, h1⟩ | ⟨g', c', cur, h1, _⟩
  · omega
  · exact ⟨g', c', h1⟩
theorem Enc.owns_reads {w : World} {B n : Nat} {T : TypeId} {v : Value} {l : List α} (h : w.ownsRow B T E.k v n (E.cells l)) : ∃ ao c, v = .slice ao n c ∧ Reads w E.k ao n (E.cells l) := by
  obtain ⟨ao, c, rfl, _, _⟩ := ownsRow_shape h
  exact ⟨ao, c, rfl, Reads.own h⟩
/-- One cell of an element is stored. -/
theorem Enc.owns_set {w : World} {B g c n : Nat} {T : TypeId} {l : List α} (h : w.ownsRow B T E.k (.slice (some ⟨g, 0, none⟩) n c) n (E.cells l)) {i : Nat} {x : α} (hx : l[i]? = some x) {j : Nat} (hj : j < E.k) {v : Value} (y : α) (hy : E.f y = (E.f x).set j v) :
    (w.setCell ⟨g, i * E.k + j, none⟩ v).ownsRow B T E.k (.slice (some ⟨g, 0, none⟩) n c) n (E.cells (l.set i y)) := by
  have hl := Enc.owns_len h
  obtain ⟨cur, hb, hB, h1, h2, h3, h4⟩ := Enc.owns_at h
  refine ⟨by rw [E.cells_len, List.length_set, hl], .inr ⟨g, c, _, rfl, hB, hb.set (i * E.k + j) _, h1, h2, by simp [h3], ?_⟩⟩
  rw [E.cells_set l i x y j v hx hj hy, ← h4]
  simp only [Array.toList_setIfInBounds, List.take_set]
theorem Enc.owns_set2 {w : World} {B g c n : Nat} {T : TypeId} {l : List α} {i : Nat} {x y : α} (h : w.ownsRow B T E.k (.slice (some ⟨g, 0, none⟩) n c) n (E.cells (l.set i x))) (hi : i < l.length) {j : Nat} (hj : j < E.k) {v : Value} (hy : E.f y = (E.f x).set j v) :
    (w.setCell ⟨g, i * E.k + j, none⟩ v).ownsRow B T E.k (.slice (some ⟨g, 0, none⟩) n c) n (E.cells (l.set i y)) := by
  have := Enc.owns_set h (show (l.set i x)[i]? = some x from List.getElem?_set_self hi) hj y hy
  rwa [List.set_set] at this

/-- A row in a block, whoever owns it. -/
def Enc.Row (E : Enc α) (w : World) (g : Nat) (T : TypeId) (l : List α) : Prop :=
  ∃ cs : Array Value, Blk w g T cs ∧ l.length * E.k ≤ cs.size ∧ cs.toList.take (l.length * E.k) = E.cells l
theorem Enc.Row.of_owns {w : World} {B g c n : Nat} {T : TypeId} {l : List α} (h : w.ownsRow B T E.k (.slice (some ⟨g, 0, none⟩) n c) n (E.cells l)) : E.Row w g T l := by
  have hl := Enc.owns_len h
  obtain ⟨cur, hb, hB, h1, h2, h3, h4⟩ := Enc.owns_at h
  exact ⟨cur, hb, by rw [hl, h3]; exact Nat.mul_le_mul_right _ h1, by rw [hl]; exact h4⟩
theorem Enc.Row.reads {w : World} {g : Nat} {T : TypeId} {l : List α} (h : E.Row w g T l) : Reads w E.k (some ⟨g, 0, none⟩) l.length (E.cells l) := by
  obtain ⟨cs, hb, h1, h2⟩ := h
  refine ⟨E.cells_len l, fun _ => ⟨g, 0, rfl, fun j hj => ?_⟩⟩
  rw [Nat.zero_add, hb.cell j, ← h2, List.getElem?_take_of_lt (by rw [E.cells_len] at hj; exact hj)]
  simp
theorem Enc.Row.cell {w : World} {g : Nat} {T : TypeId} {l : List α} (h : E.Row w g T l) {i : Nat} {x : α} (hx : l[i]? = some x) {j : Nat} {v : Value} (hv : (E.f x)[j]? = some v) : w.cell? ⟨g, i * E.k + j, none⟩ = some v := by
  have := Enc.reads_at h.reads hx hv
  rwa [Nat.zero_add] at this
theorem Enc.Row.free {w : World} {g : Nat} {T : TypeId} {l : List α} (h : E.Row w g T l) (j : Nat) : w.frozen? ⟨g, j, none⟩ = false := by
  obtain ⟨cs, hb, _⟩ := h; exact hb.free j
theorem Enc.Row.lt {w : World} {g : Nat} {T : TypeId} {l : List α} (h : E.Row w g T l) : g < w.heap.size := by
  obtain ⟨cs, hb, _⟩ := h; exact hb.lt
theorem Enc.Row.mod {S : Nat → Prop} {w w' : World} {g : Nat} {T : TypeId} {l : List α} (h : E.Row w g T l) (hm : Mod S w w') (hS : ¬ S g) : E.Row w' g T l := by
  obtain ⟨cs, hb, hc⟩ := h; exact ⟨cs, hb.mod hm hS, hc⟩
theorem Enc.Row.set {w : World} {g : Nat} {T : TypeId} {l : List α} (h : E.Row w g T l) {i : Nat} {x : α} (hx : l[i]? = some x) {j : Nat} (hj : j < E.k) {v : Value} (y : α) (hy : E.f y = (E.f x).set j v) :
    E.Row (w.setCell ⟨g, i * E.k + j, none⟩ v) g T (l.set i y) := by
  obtain ⟨cs, hb, h1, h2⟩ := h
  refine ⟨_, hb.set (i * E.k + j) v, by simpa using h1, ?_⟩
  rw [E.cells_set l i x y j v hx hj hy, ← h2, List.length_set]
  simp only [Array.toList_setIfInBounds, List.take_set]
theorem Enc.Row.set2 {w : World} {g : Nat} {T : TypeId} {l : List α} {i : Nat} {x y : α} (h : E.Row w g T (l.set i x)) (hi : i < l.length) {j : Nat} (hj : j < E.k) {v : Value} (hy : E.f y = (E.f x).set j v) :
    E.Row (w.setCell ⟨g, i * E.k + j, none⟩ v) g T (l.set i y) := by
  have := Enc.Row.set h (show (l.set i x)[i]? = some x from List.getElem?_set_self hi) hj y hy
  rwa [List.set_set] at this

/-- Elements in a new row. -/
def Enc.New (E : Enc α) (T : TypeId) (l : List α) (w : World) (e : Ending) (w' : World) : Prop :=
  ∃ g cap, e = .returned (.slice (some ⟨g, 0, none⟩) l.length cap) ∧ w'.ownsRow w.heap.size T E.k (.slice (some ⟨g, 0, none⟩) l.length cap) l.length (E.cells l) ∧ Ext w w'
/-- Elements in a row, none: whatever. -/
def Enc.Out (E : Enc α) (T : TypeId) (l : List α) (w : World) (e : Ending) (w' : World) : Prop :=
  ∃ v, e = .returned v ∧ w'.ownsRow w.heap.size T E.k v l.length (E.cells l) ∧ Ext w w'
end

/-- Pairs of numbers; an edit: its stretch, its text; a range: its stretch, how its ends are posed, its parent. -/
def prE : Enc (Int × Int) := ⟨2, by decide, fun x => [.int .i64 x.1, .int .i64 x.2], fun _ => rfl, fun x u hu => by simp at hu; rcases hu with rfl | rfl <;> rfl⟩
structure Ed where
  a : Int
  b : Int
  t : ByteArray
def edE : Enc Ed := ⟨3, by decide, fun x => [.int .i64 x.a, .int .i64 x.b, .string x.t], fun _ => rfl, fun x u hu => by simp at hu; rcases hu with rfl | rfl | rfl <;> rfl⟩
structure Rg where
  a : Int
  b : Int
  p : Bool
  q : Bool
  u : Int
def rgE : Enc Rg := ⟨5, by decide, fun x => [.int .i64 x.a, .int .i64 x.b, .bool x.p, .bool x.q, .int .i64 x.u], fun _ => rfl, fun x u hu => by simp at hu; rcases hu with rfl | rfl | rfl | rfl | rfl <;> rfl⟩
def inE : Enc Int := ⟨1, by decide, fun x => [.int .i64 x], fun _ => rfl, fun x u hu => by simp at hu; subst hu; rfl⟩
theorem reads_ed {w : World} {b off n : Nat} {L : List Ed} (h : Reads w 3 (some ⟨b, off, none⟩) n (edE.cells L)) {i : Nat} {x : Ed} (hx : L[i]? = some x) :
    w.cell? ⟨b, off + i * 3, none⟩ = some (.int .i64 x.a) ∧ w.cell? ⟨b, off + i * 3 + 1, none⟩ = some (.int .i64 x.b) ∧ w.cell? ⟨b, off + i * 3 + 2, none⟩ = some (.string x.t) :=
  ⟨Enc.reads_at (E := edE) (j := 0) h hx rfl, Enc.reads_at (E := edE) (j := 1) h hx rfl, Enc.reads_at (E := edE) (j := 2) h hx rfl⟩
theorem reads_rg {w : World} {b off n : Nat} {L : List Rg} (h : Reads w 5 (some ⟨b, off, none⟩) n (rgE.cells L)) {i : Nat} {x : Rg} (hx : L[i]? = some x) :
    w.cell? ⟨b, off + i * 5, none⟩ = some (.int .i64 x.a) ∧ w.cell? ⟨b, off + i * 5 + 1, none⟩ = some (.int .i64 x.b) ∧ w.cell? ⟨b, off + i * 5 + 2, none⟩ = some (.bool x.p) ∧ w.cell? ⟨b, off + i * 5 + 3, none⟩ = some (.bool x.q) ∧ w.cell? ⟨b, off + i * 5 + 4, none⟩ = some (.int .i64 x.u) :=
  ⟨Enc.reads_at (E := rgE) (j := 0) h hx rfl, Enc.reads_at (E := rgE) (j := 1) h hx rfl, Enc.reads_at (E := rgE) (j := 2) h hx rfl, Enc.reads_at (E := rgE) (j := 3) h hx rfl, Enc.reads_at (E := rgE) (j := 4) h hx rfl⟩
end Go.Gim
namespace Go.Gim
theorem Enc.Row.alloc {α : Type} {E : Enc α} {w : World} {g : Nat} {T : TypeId} {l : List α} (h : E.Row w g T l) (o : Obj) : E.Row (w.alloc o) g T l :=
  h.mod ((Mod.refl (fun _ => False) w).alloc o) (fun f => f)
theorem Enc.Row.drewN {α : Type} {E : Enc α} {w : World} {g : Nat} {T : TypeId} {l : List α} (h : E.Row w g T l) (n : Nat) : E.Row (w.drewN n) g T l := h
theorem Enc.splice_own {α : Type} {E : Enc α} {w : World} {B B' n K k : Nat} {T : TypeId} {v : Value} {S : List α} {x : α} (h : w.ownsRow B T E.k v n (E.cells (S.take K) ++ E.f x ++ E.cells (S.drop K))) (hn : n = k + 1) (hB : B' ≤ B) :
    w.ownsRow B' T E.k v (k + 1) (E.cells (S.take K ++ x :: S.drop K)) := by
  subst hn
  rw [E.cells_append, E.cells_cons, ← List.append_assoc]
  exact ownsRow_base h hB
end Go.Gim

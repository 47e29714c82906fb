/- Sorting by insertion, plain: the exchange of neighbours downwards is the insertion into what is sorted; selections, in order and put together. Conditions: none. -/
import Derived.WalkKit
set_option maxHeartbeats 6400000
set_option maxRecDepth 1000000
set_option linter.unusedVariables false
set_option linter.unusedSimpArgs false
namespace Go.Gim
section
variable {α : Type} (less : α → α → Bool)
def sink (l : List α) : Nat → List α
 | 0 => l
 | j + 1 =>
  match l[j + 1]?, l[j]? with
  | some x, some y => if less x y then sink ((l.set (j + 1) y).set j x) j else l
  | _, _ => l
def isort (l : List α) : Nat → List α
 | 0 => l
 | k + 1 => sink less (isort l k) k
def place (x : α) (out : List α) : Nat → Nat
 | 0 => 0
 | k + 1 =>
  match out[k]? with
  | some y => if less x y then place x out k else k + 1
  | none => k + 1
def insR (out : List α) (x : α) : List α := out.take (place less x out out.length) ++ x :: out.drop (place less x out out.length)
def sorted (l : List α) : List α := l.foldl (insR less) []
theorem sink_length (l : List α) (j : Nat) : (sink less l j).length = l.length := by
 induction j generalizing l with
 | zero => rfl
 | succ j ih =>
  unfold sink
  split
  ·split
   ·rw [ih]; simp
   ·rfl
  ·rfl
theorem isort_length (l : List α) (k : Nat) : (isort less l k).length = l.length := by
 induction k with
 | zero => rfl
 | succ k ih => unfold isort; rw [sink_length, ih]
theorem sink_yes {l : List α} {j : Nat} {x y : α} (h1 : l[j + 1]? = some x) (h2 : l[j]? = some y) (h : less x y = true) : sink less l (j + 1) = sink less ((l.set (j + 1) y).set j x) j := by
 rw [sink.eq_2, h1, h2]; simp only [h, if_true]
theorem sink_no {l : List α} {j : Nat} {x y : α} (h1 : l[j + 1]? = some x) (h2 : l[j]? = some y) (h : less x y = false) : sink less l (j + 1) = l := by
 rw [sink.eq_2, h1, h2]; simp only [h]; rfl
theorem place_le (x : α) (out : List α) (k : Nat) : place less x out k ≤ k := by
 induction k with
 | zero => exact Nat.le_refl _
 | succ k ih =>
  unfold place
  split
  ·split <;> omega
  ·exact Nat.le_refl _
theorem insR_length (out : List α) (x : α) : (insR less out x).length = out.length + 1 := by
 have := place_le less x out out.length
 unfold insR; simp; omega
theorem sink_at (x : α) (out rest : List α) (j : Nat) (hj : j ≤ out.length) :
  sink less (out.take j ++ x :: (out.drop j ++ rest)) j = out.take (place less x out j) ++ x :: (out.drop (place less x out j) ++ rest) := by
 induction j with
 | zero => rfl
 | succ j ih =>
  have hlt : j < out.length := by omega
  have e1 : (out.take (j + 1) ++ x :: (out.drop (j + 1) ++ rest))[j + 1]? = some x := by
   rw [List.getElem?_append_right (by simp; omega)]
   simp [Nat.min_eq_left hj]
  have e2 : (out.take (j + 1) ++ x :: (out.drop (j + 1) ++ rest))[j]? = some out[j] := by
   rw [List.getElem?_append_left (by simp; omega)]
   simp
  have e3 : ((out.take (j + 1) ++ x :: (out.drop (j + 1) ++ rest)).set (j + 1) out[j]).set j x = out.take j ++ x :: (out.drop j ++ rest) := by
   rw [List.take_succ_eq_append_getElem hlt, List.append_assoc, List.set_append_right _ _ (by simp; omega), List.set_append_right _ _ (by simp; omega)]
   have ed : out.drop j = out[j] :: out.drop (j + 1) := List.drop_eq_getElem_cons hlt
   simp [Nat.min_eq_left (Nat.le_of_lt hlt)]
   rw [ed]; rfl
  have ep : place less x out (j + 1) = if less x out[j] then place less x out j else j + 1 := by
   rw [place.eq_2, List.getElem?_eq_getElem hlt]
  rw [ep]
  cases hl : less x out[j] with
  | true => rw [sink_yes less e1 e2 hl, e3, ih (by omega)]; rfl
  | false => rw [sink_no less e1 e2 hl]; rfl
theorem isort_take (l : List α) (k : Nat) (hk : k ≤ l.length) : isort less l k = (l.take k).foldl (insR less) [] ++ l.drop k := by
 induction k with
 | zero => rfl
 | succ k ih =>
  have hlt : k < l.length := by omega
  have hlen : ∀ (m : Nat), m ≤ l.length → ((l.take m).foldl (insR less) []).length = m := by
   intro m
   induction m with
   | zero => intro _; rfl
   | succ m ihm =>
    intro hm
    rw [List.take_succ_eq_append_getElem (by omega), List.foldl_append, List.foldl_cons, List.foldl_nil, insR_length, ihm (by omega)]
  rw [isort, ih (by omega), List.drop_eq_getElem_cons hlt]
  have := sink_at less l[k] ((l.take k).foldl (insR less) []) (l.drop (k + 1)) k (by rw [hlen k (by omega)]; exact Nat.le_refl _)
  rw [List.take_of_length_le (by rw [hlen k (by omega)]; exact Nat.le_refl _), List.drop_of_length_le (by rw [hlen k (by omega)]; exact Nat.le_refl _), List.nil_append] at this
  rw [this, List.take_succ_eq_append_getElem hlt, List.foldl_append, List.foldl_cons, List.foldl_nil]
  have hk2 := hlen k (by omega)
  generalize (l.take k).foldl (insR less) [] = out at *
  unfold insR
  rw [hk2, List.append_assoc, List.cons_append]
theorem isort_all (l : List α) : isort less l l.length = sorted less l := by
 rw [isort_take less l _ (Nat.le_refl _), List.take_of_length_le (Nat.le_refl _), List.drop_of_length_le (Nat.le_refl _), List.append_nil]; rfl
theorem sorted_length (l : List α) : (sorted less l).length = l.length := by rw [← isort_all, isort_length]
theorem insR_perm (out : List α) (x : α) : ∀ a, a ∈ insR less out x ↔ a = x ∨ a ∈ out := by
 intro a
 have e : (a ∈ out) ↔ a ∈ out.take (place less x out out.length) ∨ a ∈ out.drop (place less x out out.length) := by
  rw [← List.mem_append, List.take_append_drop]
 unfold insR
 rw [List.mem_append, List.mem_cons, e]
 constructor
 ·rintro (h | h | h)
  ·exact .inr (.inl h)
  ·exact .inl h
  ·exact .inr (.inr h)
 ·rintro (h | h | h)
  ·exact .inr (.inl h)
  ·exact .inl h
  ·exact .inr (.inr h)
theorem sorted_snoc (l : List α) (x : α) : sorted less (l ++ [x]) = insR less (sorted less l) x := by
 unfold sorted; rw [List.foldl_append]; rfl
theorem sorted_mem (l : List α) : ∀ a, a ∈ sorted less l ↔ a ∈ l := by
 have : ∀ (l out : List α) a, a ∈ l.foldl (insR less) out ↔ a ∈ out ∨ a ∈ l := by
  intro l
  induction l with
  | nil => intro out a; simp
  | cons x r ih =>
   intro out a
   rw [List.foldl_cons, ih, insR_perm, List.mem_cons]
   constructor
   ·rintro ((h | h) | h)
    ·exact .inr (.inl h)
    ·exact .inl h
    ·exact .inr (.inr h)
   ·rintro (h | h | h)
    ·exact .inl (.inr h)
    ·exact .inl (.inl h)
    ·exact .inr h
 intro a
 rw [sorted, this]; simp
end
def lessB (x y : Int × Int) : Bool := decide (x.1 < y.1 ∨ x.1 = y.1 ∧ x.2 < y.2)
def spanI (x : Int × Int) : Int × Int := (min x.1 x.2, max x.1 x.2)
def lessS (x y : Int × Int) : Bool := lessB (spanI x) (spanI y)
def touchB (x y : Int × Int) : Bool := decide (max x.1 y.1 ≤ min x.2 y.2)
def fuse (a b : Int × Int) : Int × Int :=
 if a.2 < a.1 then (max (spanI a).2 (spanI b).2, (spanI a).1) else ((spanI a).1, max (spanI a).2 (spanI b).2)
def mergeS (out : List (Int × Int)) (s : Int × Int) : List (Int × Int) :=
 match out.getLast? with
 | some a => if touchB (spanI a) (spanI s) then out.dropLast ++ [fuse a s] else out ++ [s]
 | none => out ++ [s]
def merged (l : List (Int × Int)) : List (Int × Int) := l.foldl mergeS []
def orderN (l : List (Int × Int)) : List (Int × Int) := merged (sorted lessS l)
/-! Counts of a text. -/
def brk (l : List UInt8) : Nat := l.countP (fun c => c == 10)
def run (l : List UInt8) : Nat := l.countP (fun c => c < 128 || 191 < c)
def big (l : List UInt8) : Nat := l.countP (fun c => 240 ≤ c)
def unt (l : List UInt8) : Nat := run l + big l
def byt (l : List UInt8) : Nat := l.length
def tally (l : List UInt8) : Array Value := #[.int .i64 (byt l), .int .i64 (brk l), .int .i64 (run l), .int .i64 (unt l)]
theorem byt_append (a b : List UInt8) : byt (a ++ b) = byt a + byt b := List.length_append ..
theorem brk_append (a b : List UInt8) : brk (a ++ b) = brk a + brk b := List.countP_append ..
theorem run_append (a b : List UInt8) : run (a ++ b) = run a + run b := List.countP_append ..
theorem unt_append (a b : List UInt8) : unt (a ++ b) = unt a + unt b := by simp only [unt, run, big, List.countP_append]; omega
theorem brk_le (a : List UInt8) : brk a ≤ a.length := List.countP_le_length ..
theorem run_le (a : List UInt8) : run a ≤ a.length := List.countP_le_length ..
theorem unt_le (a : List UInt8) : unt a ≤ 2 * a.length := by
 have h1 : run a ≤ a.length := List.countP_le_length ..
 have h2 : big a ≤ a.length := List.countP_le_length ..
 simp only [unt]; omega
/-! The treap. -/
inductive T where
  | nil
  | node (b : Nat) (own : ByteArray) (prio : Int) (l r : T)
def T.addr : T → Option Addr
 | .nil => none
 | .node b _ _ _ _ => some ⟨b, 0, none⟩
def T.blocks : T → List Nat
 | .nil => []
 | .node b _ _ l r => b :: (l.blocks ++ r.blocks)
def T.text : T → List UInt8
 | .nil => []
 | .node _ own _ l r => l.text ++ (own.data.toList ++ r.text)
def T.owns : T → List ByteArray
 | .nil => []
 | .node _ own _ l r => l.owns ++ own :: r.owns
def T.size (t : T) : Nat := t.text.length
def T.Le (p : Int) : T → Prop
 | .nil => True
 | .node _ _ q _ _ => q ≤ p
def T.Heap : T → Prop
 | .nil => True
 | .node _ _ p l r => l.Le p ∧ r.Le p ∧ l.Heap ∧ r.Heap
def T.isNil : T → Bool
 | .nil => true
 | _ => false
def T.count : T → Nat
 | .nil => 0
 | .node _ _ _ l r => l.count + r.count + 1
def join (l : List ByteArray) : List UInt8 := l.flatMap (fun b => b.data.toList)
theorem join_append (a b : List ByteArray) : join (a ++ b) = join a ++ join b := by simp [join]
theorem join_cons (a : ByteArray) (b : List ByteArray) : join (a :: b) = a.data.toList ++ join b := by simp [join]
theorem T.text_owns (t : T) : t.text = join t.owns := by
 induction t with
 | nil => rfl
 | node b own p l r ihl ihr => simp [T.text, T.owns, join_append, join_cons, ihl, ihr]
def Adj : List ByteArray → Prop
 | [] => True
 | [_] => True
 | a :: b :: r => 64 < a.size + b.size ∧ Adj (b :: r)
def Sized (l : List ByteArray) : Prop := ∀ x ∈ l, 1 ≤ x.size ∧ x.size ≤ 64
def Pcs (l : List ByteArray) : Prop := Sized l ∧ Adj l
def lastLen (l : List ByteArray) : Nat := match l.getLast? with | some x => x.size | none => 64
def firstLen (l : List ByteArray) : Nat := match l with | x :: _ => x.size | [] => 64
theorem lastLen_append_cons (a : List ByteArray) (x : ByteArray) (b : List ByteArray) : lastLen (a ++ x :: b) = lastLen (x :: b) := by
 simp [lastLen, List.getLast?_append, List.getLast?_cons]
theorem lastLen_single (a : List ByteArray) (x : ByteArray) : lastLen (a ++ [x]) = x.size := by simp [lastLen]
theorem lastLen_cons_cons (x y : ByteArray) (b : List ByteArray) : lastLen (x :: y :: b) = lastLen (y :: b) := by simp [lastLen]
theorem adj_cons {x : ByteArray} {l : List ByteArray} : Adj (x :: l) ↔ (l ≠ [] → 64 < x.size + firstLen l) ∧ Adj l := by
 cases l with
 | nil => simp [Adj]
 | cons y r => simp [Adj, firstLen]
theorem adj_append {a b : List ByteArray} : Adj (a ++ b) ↔ Adj a ∧ Adj b ∧ (a ≠ [] → b ≠ [] → 64 < lastLen a + firstLen b) := by
 induction a with
 | nil => simp [Adj]
 | cons x r ih =>
  cases r with
  | nil =>
   rw [List.cons_append, List.nil_append, adj_cons]
   simp [Adj, lastLen]
   constructor
   ·rintro ⟨h1, h2⟩; exact ⟨h2, h1⟩
   ·rintro ⟨h1, h2⟩; exact ⟨h2, h1⟩
  | cons y q =>
   have e1 : Adj (x :: (y :: q ++ b)) ↔ 64 < x.size + y.size ∧ Adj (y :: q ++ b) := by rw [adj_cons]; simp [firstLen]
   have e2 : Adj (x :: y :: q) ↔ 64 < x.size + y.size ∧ Adj (y :: q) := by rw [adj_cons]; simp [firstLen]
   rw [List.cons_append, e1, e2, ih, lastLen_cons_cons]
   constructor
   ·rintro ⟨h1, h2, h3, h4⟩; exact ⟨⟨h1, h2⟩, h3, fun _ => h4 (by simp)⟩
   ·rintro ⟨⟨h1, h2⟩, h3, h4⟩; exact ⟨h1, h2, h3, fun _ => h4 (by simp)⟩
theorem sized_append {a b : List ByteArray} : Sized (a ++ b) ↔ Sized a ∧ Sized b := by
 simp only [Sized, List.mem_append]
 constructor
 ·intro h; exact ⟨fun x hx => h x (.inl hx), fun x hx => h x (.inr hx)⟩
 ·rintro ⟨h1, h2⟩ x (hx | hx)
  ·exact h1 x hx
  ·exact h2 x hx
theorem good_append {a b : List ByteArray} : Pcs (a ++ b) ↔ Pcs a ∧ Pcs b ∧ (a ≠ [] → b ≠ [] → 64 < lastLen a + firstLen b) := by
 simp only [Pcs, sized_append, adj_append]
 constructor
 ·rintro ⟨⟨h1, h2⟩, h3, h4, h5⟩; exact ⟨⟨h1, h3⟩, ⟨h2, h4⟩, h5⟩
 ·rintro ⟨⟨h1, h3⟩, ⟨h2, h4⟩, h5⟩; exact ⟨⟨h1, h2⟩, h3, h4, h5⟩
theorem good_nil : Pcs [] := ⟨by simp [Sized], trivial⟩
theorem good_one {x : ByteArray} (h1 : 1 ≤ x.size) (h2 : x.size ≤ 64) : Pcs [x] := ⟨by simp [Sized, h1, h2], trivial⟩
theorem T.size_node (b : Nat) (own : ByteArray) (p : Int) (l r : T) : (T.node b own p l r).size = l.size + (own.size + r.size) := by
 simp [T.size, T.text]
theorem T.size_owns {t : T} {l : List ByteArray} (h : t.owns = l) : t.size = (join l).length := by rw [T.size, T.text_owns, h]
theorem T.size_join (t : T) : t.size = (join t.owns).length := T.size_owns rfl
theorem T.size_two {t a b : T} (h : t.owns = a.owns ++ b.owns) : t.size = a.size + b.size := by
 rw [T.size_owns h, join_append, List.length_append, ← T.size_join, ← T.size_join]
structure Merged (a b t : T) : Prop where
 owns : t.owns = a.owns ++ b.owns
 blocks : t.blocks.Perm (a.blocks ++ b.blocks)
 heap : a.Heap → b.Heap → t.Heap
 le : ∀ p, a.Le p → b.Le p → t.Le p
theorem T.Le.mono {t : T} {p q : Int} (h : t.Le p) (hq : p ≤ q) : t.Le q := by
 cases t with
 | nil => trivial
 | node => exact Int.le_trans h hq
theorem Merged.nil_left (b : T) : Merged .nil b b := ⟨rfl, List.Perm.refl _, fun _ h => h, fun _ _ h => h⟩
theorem Merged.nil_right (a : T) : Merged a .nil a := ⟨by simp [T.owns], by simp [T.blocks], fun h _ => h, fun _ h _ => h⟩
theorem Merged.right {ba bb : Nat} {oa ob : ByteArray} {pa pb : Int} {la ra lb rb t : T} (h : Merged ra (.node bb ob pb lb rb) t) (hp : pb ≤ pa) : Merged (.node ba oa pa la ra) (.node bb ob pb lb rb) (.node ba oa pa la t) := by
 refine ⟨?_, ?_, ?_, fun q h1 _ => h1⟩
 ·simp only [T.owns]; rw [h.owns]; simp [T.owns]
 ·have := h.blocks
  rw [show (T.node ba oa pa la t).blocks = ba :: (la.blocks ++ t.blocks) from rfl, show (T.node ba oa pa la ra).blocks = ba :: (la.blocks ++ ra.blocks) from rfl, List.cons_append, List.append_assoc]
  exact List.Perm.cons _ (List.Perm.append_left _ this)
 ·rintro ⟨h1, h2, h3, h4⟩ hb
  exact ⟨h1, h.le pa h2 hp, h3, h.heap h4 hb⟩
theorem Merged.left {ba bb : Nat} {oa ob : ByteArray} {pa pb : Int} {la ra lb rb t : T} (h : Merged (.node ba oa pa la ra) lb t) (hp : pa ≤ pb) : Merged (.node ba oa pa la ra) (.node bb ob pb lb rb) (.node bb ob pb t rb) := by
 refine ⟨?_, ?_, ?_, fun q _ h2 => h2⟩
 ·simp only [T.owns]; rw [h.owns]; simp [T.owns]
 ·have := h.blocks
  rw [show (T.node bb ob pb t rb).blocks = bb :: (t.blocks ++ rb.blocks) from rfl, show (T.node bb ob pb lb rb).blocks = bb :: (lb.blocks ++ rb.blocks) from rfl]
  refine (List.Perm.cons _ (List.Perm.append_right _ this)).trans ?_
  rw [List.append_assoc]
  exact List.perm_middle.symm
 ·rintro ha ⟨h1, h2, h3, h4⟩
  exact ⟨h.le pb hp h1, h2, h.heap ha h3, h4⟩
structure Parted (t l r : T) : Prop where
 owns : t.owns = l.owns ++ r.owns
 blocks : (l.blocks ++ r.blocks).Perm t.blocks
 heap : t.Heap → l.Heap ∧ r.Heap
 le : t.Heap → ∀ p, t.Le p → l.Le p ∧ r.Le p
theorem Parted.nil : Parted .nil .nil .nil := ⟨rfl, List.Perm.refl _, fun h => ⟨h, h⟩, fun _ _ h => ⟨h, h⟩⟩
theorem Parted.right {b : Nat} {own : ByteArray} {p : Int} {tl tr l r : T} (h : Parted tr l r) : Parted (.node b own p tl tr) (.node b own p tl l) r := by
 refine ⟨by simp [T.owns, h.owns], ?_, ?_, ?_⟩
 ·show (b :: (tl.blocks ++ l.blocks) ++ r.blocks).Perm (b :: (tl.blocks ++ tr.blocks))
  rw [List.cons_append, List.append_assoc]
  exact List.Perm.cons _ (List.Perm.append_left _ h.blocks)
 ·rintro ⟨h1, h2, h3, h4⟩
  exact ⟨⟨h1, (h.le h4 p h2).1, h3, (h.heap h4).1⟩, (h.heap h4).2⟩
 ·rintro ⟨h1, h2, h3, h4⟩ q hq
  exact ⟨hq, (h.le h4 p h2).2.mono hq⟩
theorem Parted.left {b : Nat} {own : ByteArray} {p : Int} {tl tr l r : T} (h : Parted tl l r) : Parted (.node b own p tl tr) l (.node b own p r tr) := by
 refine ⟨by simp [T.owns, h.owns], ?_, ?_, ?_⟩
 ·show (l.blocks ++ b :: (r.blocks ++ tr.blocks)).Perm (b :: (tl.blocks ++ tr.blocks))
  refine List.perm_middle.trans (List.Perm.cons _ ?_)
  rw [← List.append_assoc]
  exact List.Perm.append_right _ h.blocks
 ·rintro ⟨h1, h2, h3, h4⟩
  exact ⟨(h.heap h3).1, ⟨(h.le h3 p h1).2, h2, (h.heap h3).2, h4⟩⟩
 ·rintro ⟨h1, h2, h3, h4⟩ q hq
  exact ⟨(h.le h3 p h1).1.mono hq, hq⟩
theorem Parted.size {t l r : T} (h : Parted t l r) : t.size = l.size + r.size := T.size_two h.owns
theorem firstLen_append {a b : List ByteArray} (h : a ≠ []) : firstLen (a ++ b) = firstLen a := by
 cases a with
 | nil => exact absurd rfl h
 | cons => rfl
def EndsAt (a : Int) (l r : T) : Prop := (l.size : Int) ≤ a ∧ (r.owns = [] ∨ a < l.size + firstLen r.owns)
def BeginsAt (a : Int) (l r : T) : Prop := (r.owns = [] ∨ a ≤ l.size) ∧ (l.owns = [] ∨ (l.size : Int) - lastLen l.owns < a)
theorem T.size_of_owns {t u : T} (h : t.owns = u.owns) : t.size = u.size := by rw [T.size_join, T.size_join, h]
theorem EndsAt.nil {a : Int} (h : 0 ≤ a) : EndsAt a .nil .nil := ⟨by simpa [T.size, T.text] using h, .inl rfl⟩
theorem EndsAt.right {b : Nat} {own : ByteArray} {p : Int} {tl l r : T} {a : Int} (h : EndsAt (a - (tl.size + own.size)) l r) : EndsAt a (.node b own p tl l) r := by
 obtain ⟨h1, h2⟩ := h
 have e := T.size_node b own p tl l
 refine ⟨by omega, h2.imp id (fun h => ?_)⟩
 omega
theorem EndsAt.left {b : Nat} {own : ByteArray} {p : Int} {tl tr l r : T} {a : Int} (h : EndsAt a l r) (hp : Parted tl l r) (ha : a < tl.size + own.size) : EndsAt a l (.node b own p r tr) := by
 obtain ⟨h1, h2⟩ := h
 refine ⟨h1, .inr ?_⟩
 by_cases hr : r.owns = []
 ·have e : tl.size = l.size := T.size_of_owns (by rw [hp.owns, hr, List.append_nil])
  simp only [T.owns, hr, List.nil_append, firstLen]
  omega
 ·have h3 := h2.resolve_left hr
  simp only [T.owns]
  rw [firstLen_append hr]; exact h3
theorem BeginsAt.nil {a : Int} : BeginsAt a .nil .nil := ⟨.inl rfl, .inl rfl⟩
theorem BeginsAt.right {b : Nat} {own : ByteArray} {p : Int} {tl l r : T} {a : Int} (h : BeginsAt (a - tl.size - own.size) l r) (ha : (tl.size : Int) < a) : BeginsAt a (.node b own p tl l) r := by
 obtain ⟨h1, h2⟩ := h
 have e := T.size_node b own p tl l
 refine ⟨h1.imp id (fun h => by omega), .inr ?_⟩
 simp only [T.owns]
 cases hl : l.owns with
 | nil =>
  rw [lastLen_single]
  have : l.size = 0 := by rw [T.size_join, hl]; rfl
  omega
 | cons x q =>
  rw [lastLen_append_cons, lastLen_cons_cons]
  rw [hl] at h2
  have h3 := h2.resolve_left (by simp)
  omega
theorem BeginsAt.left {b : Nat} {own : ByteArray} {p : Int} {tl tr l r : T} {a : Int} (h : BeginsAt a l r) (hp : Parted tl l r) (ha : a ≤ tl.size) : BeginsAt a l (.node b own p r tr) := by
 obtain ⟨h1, h2⟩ := h
 refine ⟨.inr ?_, h2⟩
 rcases h1 with h1 | h1
 ·have e : tl.size = l.size := T.size_of_owns (by rw [hp.owns, h1, List.append_nil])
  omega
 ·exact h1
def cut {α : Type} (l : List α) (f t : Int) : List α := (l.take t.toNat).drop f.toNat
theorem cut_len {α : Type} (l : List α) (f t : Int) : (cut l f t).length = min t.toNat l.length - f.toNat := by simp [cut]
theorem cut_none {α : Type} (l : List α) (f t : Int) (h : t ≤ f) : cut l f t = [] := by
 apply List.eq_nil_of_length_eq_zero; rw [cut_len]; omega
theorem cut_out {α : Type} (l : List α) (f t : Int) (h : (l.length : Int) ≤ f) : cut l f t = [] := by
 apply List.eq_nil_of_length_eq_zero; rw [cut_len]; omega
theorem cut_all {α : Type} (l : List α) : cut l 0 l.length = l := by simp [cut]
theorem cut_append {α : Type} (a b : List α) (f t : Int) (hf : 0 ≤ f) : cut (a ++ b) f t = cut a f t ++ cut b (f - a.length) (t - a.length) := by
 unfold cut
 rw [List.take_append, List.drop_append, List.length_take]
 congr 1
 rw [show (t - (a.length : Int)).toNat = t.toNat - a.length from by omega]
 by_cases h : t.toNat ≤ a.length
 ·rw [show t.toNat - a.length = 0 from by omega]; simp
 ·congr 1; omega
theorem cut_to {α : Type} (l : List α) (f t u : Int) (h : min t l.length = min u l.length) (h0 : 0 ≤ t) (h1 : 0 ≤ u) : cut l f t = cut l f u := by
 unfold cut
 congr 1
 by_cases h2 : t.toNat ≤ l.length
 ·by_cases h3 : u.toNat ≤ l.length
  ·congr 1; omega
  ·rw [List.take_of_length_le (by omega), List.take_of_length_le (by omega)]
 ·rw [List.take_of_length_le (by omega), List.take_of_length_le (by omega)]
theorem cut_from {α : Type} (l : List α) (f g t : Int) (h : f.toNat = g.toNat) : cut l f t = cut l g t := by unfold cut; rw [h]
theorem cut_node (L O R : List UInt8) (f t : Int) (hf : 0 ≤ f) :
  cut (L ++ (O ++ R)) f t = cut L f t ++ (cut O (f - L.length) (t - L.length) ++ cut R (f - (L.length + O.length)) (t - (L.length + O.length))) := by
 rw [cut_append _ _ _ _ hf]
 congr 1
 by_cases h : (L.length : Int) ≤ f
 ·rw [cut_append _ _ _ _ (by omega)]
  congr 2 <;> omega
 ·rw [cut_from (O ++ R) _ 0 _ (by omega), cut_append _ _ _ _ (by omega), cut_from O (f - L.length) 0 _ (by omega)]
  congr 1
  rw [cut_from R (0 - (O.length : Int)) (f - (L.length + O.length)) _ (by omega)]
  congr 1; omega
theorem cut_neg {α : Type} (l : List α) (f t : Int) (h : t ≤ 0) : cut l f t = [] := by
 apply List.eq_nil_of_length_eq_zero; rw [cut_len]; omega
theorem take_drop_cut {α : Type} (l : List α) (i j : Nat) (f t : Int) (hf : f.toNat = i) (ht : t.toNat = j) : (l.drop i).take (j - i) = cut l f t := by
 unfold cut
 rw [hf, ht, List.drop_take]
theorem extract_cut (s : ByteArray) (i j : Nat) (f t : Int) (hf : f.toNat = i) (ht : t.toNat = j) : (s.extract i j).data.toList = cut s.data.toList f t := by
 unfold cut
 rw [ByteArray.data_extract, hf, ht]
 simp [List.extract_eq_take_drop, List.drop_take]
def Ahead (a : List ByteArray) (m : List UInt8) : Prop := a = [] ∨ 64 < lastLen a + min 64 m.length
def Behind (m : List UInt8) (b : List ByteArray) : Prop := b = [] ∨ 64 < (m.length - 1) % 64 + 1 + firstLen b
def Meet (a b : List ByteArray) : Prop := a = [] ∨ b = [] ∨ 64 < lastLen a + firstLen b
structure J (a : List ByteArray) (m : List UInt8) (b : List ByteArray) : Prop where
 ga : Pcs a
 gb : Pcs b
 none : m = [] → Meet a b
 ahead : m ≠ [] → Ahead a m
 behind : m ≠ [] → Behind m b
theorem J.done {a b : List ByteArray} (h : J a [] b) : Pcs (a ++ b) := by
 refine good_append.2 ⟨h.ga, h.gb, fun ha hb => ?_⟩
 rcases h.none rfl with e | e | e
 ·exact absurd e ha
 ·exact absurd e hb
 ·exact e
theorem J.step {a b : List ByteArray} {m : List UInt8} (h : J a m b) (hm : m ≠ []) (x : ByteArray) (hx : x.data.toList = m.take 64) : J (a ++ [x]) (m.drop 64) b := by
 have hl : 0 < m.length := List.length_pos_iff.2 hm
 have hs : x.size = min 64 m.length := by
  have : x.data.toList.length = x.size := rfl
  rw [← this, hx, List.length_take]
 have e64 : lastLen (a ++ [x]) = min 64 m.length := by rw [lastLen_single, hs]
 refine ⟨?_, h.gb, ?_, ?_, ?_⟩
 ·refine good_append.2 ⟨h.ga, good_one (by omega) (by omega), fun ha _ => ?_⟩
  rcases h.ahead hm with e | e
  ·exact absurd e ha
  ·simp only [firstLen]; omega
 ·intro hd
  have hd' : m.length ≤ 64 := List.drop_eq_nil_iff.1 hd
  rcases h.behind hm with e | e
  ·exact .inr (.inl e)
  ·refine .inr (.inr ?_)
   rw [e64]; omega
 ·intro hd
  have hd' : ¬ m.length ≤ 64 := fun h => hd (List.drop_eq_nil_iff.2 h)
  refine .inr ?_
  rw [e64, List.length_drop]; omega
 ·intro hd
  have hd' : ¬ m.length ≤ 64 := fun h => hd (List.drop_eq_nil_iff.2 h)
  rcases h.behind hm with e | e
  ·exact .inl e
  ·refine .inr ?_
   rw [List.length_drop]; omega
theorem join_pos {l : List ByteArray} (h : Sized l) (hn : l ≠ []) : 1 ≤ (join l).length := by
 cases l with
 | nil => exact absurd rfl hn
 | cons x r =>
  have := (h x (by simp)).1
  have e : x.data.toList.length = x.size := rfl
  rw [join_cons, List.length_append]; omega
theorem sized_cons {x : ByteArray} {l : List ByteArray} : Sized (x :: l) ↔ (1 ≤ x.size ∧ x.size ≤ 64) ∧ Sized l := by simp [Sized]
theorem lastLen_le {l : List ByteArray} (hn : l ≠ []) : lastLen l ≤ (join l).length := by
 obtain ⟨q, x, rfl⟩ : ∃ q x, l = q ++ [x] := ⟨l.dropLast, l.getLast hn, (List.dropLast_concat_getLast hn).symm⟩
 have e : x.data.toList.length = x.size := rfl
 rw [lastLen_single, join_append, join_cons, List.length_append, List.length_append]; omega
theorem lastLen_pos {l : List ByteArray} (h : Sized l) : 1 ≤ lastLen l := by
 by_cases hn : l = []
 ·subst hn; simp [lastLen]
 ·obtain ⟨q, x, rfl⟩ : ∃ q x, l = q ++ [x] := ⟨l.dropLast, l.getLast hn, (List.dropLast_concat_getLast hn).symm⟩
  rw [lastLen_single]; exact (h x (by simp)).1
theorem ends_last {t l r : T} (hp : Parted t l r) (hs : Sized t.owns) (hn : t.owns ≠ []) (h : EndsAt ((t.size : Int) - lastLen t.owns) l r) : ∃ x, r.owns = [x] ∧ x.size = lastLen t.owns := by
 have hsz := hp.size
 have h1 := lastLen_pos hs
 have h2 := lastLen_le hn
 rw [← T.size_join] at h2
 obtain ⟨h3, h4⟩ := h
 rw [hp.owns] at hs
 have hsr := (sized_append.1 hs).2
 cases hr : r.owns with
 | nil =>
  have : r.size = 0 := by rw [T.size_join, hr]; rfl
  omega
 | cons x q =>
  rw [hr] at h4 hsr
  have h5 := h4.resolve_left (by simp)
  have e : x.data.toList.length = x.size := rfl
  have h6 : r.size = x.size + (join q).length := by rw [T.size_join, hr, join_cons, List.length_append, e]
  have h7 : lastLen t.owns = lastLen (x :: q) := by rw [hp.owns, hr, lastLen_append_cons]
  cases q with
  | nil => exact ⟨x, rfl, by rw [h7]; simp [lastLen]⟩
  | cons y q' =>
   have h8 : lastLen t.owns = lastLen (y :: q') := by rw [h7, lastLen_cons_cons]
   have h9 := lastLen_le (l := y :: q') (by simp)
   simp only [firstLen] at h5
   omega
theorem begins_one {t l r : T} (hp : Parted t l r) (hs : Sized t.owns) (hn : t.owns ≠ []) (h : BeginsAt 1 l r) : ∃ x, l.owns = [x] ∧ x.size = firstLen t.owns := by
 have hsz := hp.size
 obtain ⟨h3, h4⟩ := h
 rw [hp.owns] at hs hn
 have hsl := (sized_append.1 hs).1
 cases hl : l.owns with
 | nil =>
  have : l.size = 0 := by rw [T.size_join, hl]; rfl
  rw [hl, List.nil_append] at hn
  have := h3.resolve_left hn
  omega
 | cons x q =>
  rw [hl] at h4 hsl
  have h5 := h4.resolve_left (by simp)
  have e : x.data.toList.length = x.size := rfl
  have h6 : l.size = x.size + (join q).length := by rw [T.size_join, hl, join_cons, List.length_append, e]
  have hx := (sized_cons.1 hsl).1
  cases q with
  | nil => exact ⟨x, rfl, by rw [hp.owns, hl]; rfl⟩
  | cons y q' =>
   have h8 := lastLen_le (l := y :: q') (by simp)
   rw [lastLen_cons_cons] at h5
   omega
theorem T.root_of_one {b : Nat} {own x : ByteArray} {p : Int} {l r : T} (h : (T.node b own p l r).owns = [x]) : own = x := by
 simp only [T.owns] at h
 cases hl : l.owns with
 | nil => rw [hl] at h; simp at h; exact h.1
 | cons y q => rw [hl] at h; simp at h
theorem Ahead.took {l : List ByteArray} {x : ByteArray} {m : List UInt8} (h : Pcs (l ++ [x])) (hle : x.size + m.length ≤ 64) : Ahead l (x.data.toList ++ m) ∧ Pcs l ∧ x.data.toList ++ m ≠ [] := by
 obtain ⟨h1, h2, h3⟩ := good_append.1 h
 have e : x.data.toList.length = x.size := rfl
 have hx := (h2.1 x (by simp)).1
 refine ⟨?_, h1, fun h0 => ?_⟩
 ·by_cases hl : l = []
  ·exact .inl hl
  ·refine .inr ?_
   have := h3 hl (by simp)
   simp only [firstLen] at this
   rw [List.length_append]; omega
 ·have := congrArg List.length h0
  rw [List.length_append] at this
  simp only [List.length_nil] at this
  omega
theorem Ahead.not {a : List ByteArray} {m : List UInt8} (ha : Pcs a) (h : a = [] ∨ 64 < lastLen a + m.length) : Ahead a m := by
 rcases h with h | h
 ·exact .inl h
 ·refine .inr ?_
  have := lastLen_pos ha.1
  omega
theorem Ahead.more {a : List ByteArray} {m k : List UInt8} (h : Ahead a m) : Ahead a (m ++ k) := by
 rcases h with h | h
 ·exact .inl h
 ·refine .inr ?_
  rw [List.length_append]; omega
theorem Behind.took {r : List ByteArray} {y : ByteArray} {m : List UInt8} (h : Pcs (y :: r)) (hm : m ≠ []) (hle : (m.length - 1) % 64 + 1 + y.size ≤ 64) : Behind (m ++ y.data.toList) r ∧ Pcs r := by
 have e : y.data.toList.length = y.size := rfl
 have hl : 0 < m.length := List.length_pos_iff.2 hm
 obtain ⟨h1, h2, h3⟩ := (good_append (a := [y]) (b := r)).1 h
 have hy := (h1.1 y (by simp)).1
 refine ⟨?_, h2⟩
 by_cases hr : r = []
 ·exact .inl hr
 ·refine .inr ?_
  have := h3 (by simp) hr
  simp only [lastLen, List.getLast?_singleton] at this
  rw [List.length_append]; omega
theorem J.of {a b : List ByteArray} {m : List UInt8} (ha : Pcs a) (hb : Pcs b) (hm : m ≠ []) (h1 : Ahead a m) (h2 : Behind m b) : J a m b :=
 ⟨ha, hb, fun h => absurd h hm, fun _ => h1, fun _ => h2⟩
def splice {α : Type} (l : List α) (f g : Int) (s : List α) : List α := l.take f.toNat ++ (s ++ l.drop g.toNat)
theorem splice_none {α : Type} (l : List α) (f : Int) : splice l f f [] = l := by simp [splice]
theorem splice_len {α : Type} (l : List α) (f g : Int) (s : List α) (h0 : 0 ≤ f) (h1 : f ≤ g) (h2 : g ≤ l.length) : ((splice l f g s).length : Int) = l.length - (g - f) + s.length := by
 simp only [splice, List.length_append, List.length_take, List.length_drop]; omega
theorem splice_mid {α : Type} (a c b s : List α) (f g : Int) (h0 : (a.length : Int) ≤ f) (h1 : f ≤ g) (h2 : g - a.length ≤ c.length) :
  splice (a ++ (c ++ b)) f g s = a ++ ((cut c 0 (f - a.length) ++ (s ++ cut c (g - a.length) c.length)) ++ b) := by
 unfold splice cut
 rw [List.take_append, List.take_append, List.drop_append, List.drop_append]
 rw [List.take_of_length_le (show a.length ≤ f.toNat from by omega)]
 rw [show f.toNat - a.length - c.length = 0 from by omega, show (f - (a.length : Int)).toNat = f.toNat - a.length from by omega]
 rw [List.drop_of_length_le (show a.length ≤ g.toNat from by omega)]
 rw [show (g - (a.length : Int)).toNat = g.toNat - a.length from by omega, show g.toNat - a.length - c.length = 0 from by omega]
 simp
theorem replace_parts {t a r c b : T} {f g : Int} (hp : Parted t a r) (hq : Parted r c b) (he : EndsAt f a r) (hb : BeginsAt (g - a.size) c b) (h1 : f ≤ g) (h2 : g ≤ t.size) :
  t.text = a.text ++ (c.text ++ b.text) ∧ (a.size : Int) ≤ f ∧ g - a.size ≤ c.size := by
 refine ⟨?_, he.1, ?_⟩
 ·rw [T.text_owns, hp.owns, hq.owns, join_append, join_append, ← T.text_owns, ← T.text_owns, ← T.text_owns]
 ·have s1 := hp.size
  have s2 := hq.size
  rcases hb.1 with h | h
  ·have : b.size = 0 := by rw [T.size_join, h]; rfl
   omega
  ·exact h
theorem replace_pcs {t a r c b : T} (hp : Parted t a r) (hq : Parted r c b) (h : Pcs t.owns) : Pcs a.owns ∧ Pcs c.owns ∧ Pcs b.owns := by
 rw [hp.owns, hq.owns] at h
 have h1 := good_append.1 h
 have h2 := good_append.1 h1.2.1
 exact ⟨h1.1, h2.1, h2.2.1⟩
theorem replace_blocks {t a r c b : T} (hp : Parted t a r) (hq : Parted r c b) : (a.blocks ++ (c.blocks ++ b.blocks)).Perm t.blocks :=
 (List.Perm.append_left _ hq.blocks).trans hp.blocks
def inB (c : UInt8) : Bool := decide (128 ≤ c.toNat ∧ c.toNat ≤ 191)
def bs (l : List UInt8) : ByteArray := ⟨l.toArray⟩
theorem bs_toList (l : List UInt8) : (bs l).data.toList = l := rfl
theorem bs_size (l : List UInt8) : (bs l).size = l.length := rfl
theorem bs_of (s : ByteArray) : bs s.data.toList = s := rfl
theorem toList_length (s : ByteArray) : s.data.toList.length = s.size := rfl
theorem toList_get (s : ByteArray) (k : Nat) (h : k < s.size) : s.data.toList[k]'(by rw [toList_length]; exact h) = s[k] := rfl
theorem extract_bs (s : ByteArray) (a b : Nat) : s.extract a b = bs ((s.data.toList.drop a).take (b - a)) := by
 apply ByteArray.ext
 rw [ByteArray.data_extract]
 apply Array.ext'
 simp [bs, List.extract_eq_take_drop]
def byW (way : Int) (l : List UInt8) : Nat := if way = 0 then byt l else if way = 1 then run l else if way = 2 then unt l else if way = 3 then brk l else 0
theorem byW_append (way : Int) (a b : List UInt8) : byW way (a ++ b) = byW way a + byW way b := by
 unfold byW; repeat' split
 ·exact byt_append a b
 ·exact run_append a b
 ·exact unt_append a b
 ·exact brk_append a b
 ·rfl
theorem byW_nil (way : Int) : byW way [] = 0 := by
 unfold byW; repeat' split
 all_goals rfl
theorem byW_le (way : Int) (a : List UInt8) : byW way a ≤ 2 * a.length := by
 have h1 := brk_le a
 have h2 := run_le a
 have h3 := unt_le a
 unfold byW byt; repeat' split
 all_goals omega
theorem byW_cons (way : Int) (c : UInt8) (r : List UInt8) : byW way (c :: r) = byW way [c] + byW way r := byW_append way [c] r
def upto (way : Int) : List UInt8 → Nat → Nat
 | [], _ => 0
 | c :: r, n => if n < byW way [c] then 0 else 1 + upto way r (n - byW way [c])
theorem upto_le (way : Int) (l : List UInt8) : ∀ n, upto way l n ≤ l.length := by
  induction l with
  | nil => intro n; simp [upto]
  | cons c r ih => intro n; simp only [upto]; split; · omega
                   · have := ih (n - byW way [c]); simp only [List.length_cons]; omega
theorem upto_append_lt (way : Int) (a b : List UInt8) : ∀ n, n < byW way a → upto way (a ++ b) n = upto way a n := by
 induction a with
 | nil => intro n h; rw [byW_nil] at h; omega
 | cons c r ih =>
  intro n h
  have e := byW_cons way c r
  rw [e] at h
  simp only [List.cons_append, upto]
  split
  ·rfl
  ·rw [ih _ (by omega)]
theorem upto_append_ge (way : Int) (a b : List UInt8) : ∀ n, byW way a ≤ n → upto way (a ++ b) n = a.length + upto way b (n - byW way a) := by
 induction a with
 | nil => intro n _; simp [byW_nil]
 | cons c r ih =>
  intro n h
  have e := byW_cons way c r
  rw [e] at h ⊢
  simp only [List.cons_append, upto]
  rw [if_neg (by omega), ih _ (by omega), List.length_cons, Nat.sub_sub]
  omega
theorem upto_all (way : Int) (a : List UInt8) (n : Nat) (h : byW way a ≤ n) : upto way a n = a.length := by
 have := upto_append_ge way a [] n h
 rw [List.append_nil] at this
 simpa [upto] using this
def sts (k : Nat) : List UInt8 → List Nat
 | [] => []
 | c :: r => if c == 10 then (k + 1) :: sts (k + 1) r else sts (k + 1) r
def startsL (l : List UInt8) : List Nat := 0 :: sts 0 l
def lineN (l : List UInt8) (line : Nat) : Nat := if line = 0 then 0 else upto 3 l (line - 1) + 1
def lineE (l : List UInt8) (line : Nat) : Nat := upto 3 l line
theorem brk_nil : brk [] = 0 := rfl
theorem brk_cons (c : UInt8) (r : List UInt8) : brk (c :: r) = brk r + if c == 10 then 1 else 0 := by simp [brk, List.countP_cons]
theorem byW3 (l : List UInt8) : byW 3 l = brk l := rfl
theorem byW3_one (c : UInt8) : byW 3 [c] = if c == 10 then 1 else 0 := by rw [byW3, brk_cons]; simp [brk_nil]
theorem sts_snoc (l : List UInt8) (c : UInt8) : ∀ k, sts k (l ++ [c]) = sts k l ++ if c == 10 then [k + l.length + 1] else [] := by
 induction l with
 | nil => intro k; simp [sts]
 | cons x r ih =>
  intro k
  simp only [List.cons_append, sts, ih, List.length_cons]
  split <;> split <;> simp <;> omega
theorem startsL_snoc (l : List UInt8) (c : UInt8) : startsL (l ++ [c]) = startsL l ++ if c == 10 then [l.length + 1] else [] := by
 unfold startsL; rw [sts_snoc]; simp
theorem sts_len (l : List UInt8) : ∀ k, (sts k l).length = brk l := by
 induction l with
 | nil => intro k; rfl
 | cons c r ih => intro k; rw [brk_cons]; simp only [sts]; split <;> simp [ih]
theorem startsL_len (l : List UInt8) : (startsL l).length = brk l + 1 := by simp [startsL, sts_len]
theorem sts_at (l : List UInt8) : ∀ (k j : Nat), j < brk l → (sts k l)[j]? = some (k + upto 3 l j + 1) := by
 induction l with
 | nil => intro k j h; simp [brk_nil] at h
 | cons c r ih =>
  intro k j h
  rw [brk_cons] at h
  simp only [sts, upto, byW3_one]
  by_cases hc : (c == 10) = true
  ·simp only [hc, if_true] at h ⊢
   cases j with
   | zero => simp
   | succ j =>
    rw [List.getElem?_cons_succ, ih _ _ (by omega), if_neg (by omega)]
    simp; omega
  ·simp only [hc, Bool.false_eq_true, if_false, Nat.add_zero] at h ⊢
   rw [ih _ _ h, if_neg (by omega)]
   simp; omega
theorem startsL_at (l : List UInt8) (j : Nat) (h : j ≤ brk l) : (startsL l)[j]? = some (lineN l j) := by
 cases j with
 | zero => rfl
 | succ j =>
  unfold startsL lineN
  rw [List.getElem?_cons_succ, sts_at _ _ _ (by omega)]
  simp
theorem lineE_last (l : List UInt8) : lineE l (brk l) = l.length := upto_all 3 l (brk l) (Nat.le_refl _)
theorem lineE_succ (l : List UInt8) (j : Nat) : lineE l j = lineN l (j + 1) - 1 := by simp [lineE, lineN]
theorem lineE_le (l : List UInt8) (j : Nat) : lineE l j ≤ l.length := upto_le 3 l j
theorem lineN_pos (l : List UInt8) (j : Nat) (h : j < brk l) : 0 < lineN l (j + 1) ∧ lineN l (j + 1) ≤ l.length := by
 have h1 := sts_at l 0 j h
 refine ⟨by simp [lineN], ?_⟩
 simp only [lineN]
 rw [if_neg (by omega)]
 have : ∀ (l : List UInt8) (j : Nat), j < brk l → upto 3 l j < l.length := by
  intro l
  induction l with
  | nil => intro j h; simp [brk_nil] at h
  | cons c r ih =>
   intro j h
   rw [brk_cons] at h
   simp only [upto, byW3_one, List.length_cons]
   by_cases hc : (c == 10) = true
   ·simp only [hc, if_true] at h ⊢
    split
    ·omega
    ·have := ih (j - 1) (by omega); omega
   ·simp only [hc, Bool.false_eq_true, if_false, Nat.add_zero, Nat.sub_zero] at h ⊢
    rw [if_neg (by omega)]
    have := ih j h; omega
 have := this l j h
 rw [Nat.add_sub_cancel]
 omega
theorem lineN_le (l : List UInt8) (f : Nat) : lineN l (brk (l.take f)) ≤ f := by
 cases hb : brk (l.take f) with
 | zero => simp [lineN]
 | succ j =>
  have e : l = l.take f ++ l.drop f := (List.take_append_drop f l).symm
  have h1 := lineN_pos (l.take f) j (by omega)
  have h2 : lineN l (j + 1) = lineN (l.take f) (j + 1) := by
   simp only [lineN]
   rw [if_neg (by omega), if_neg (by omega)]
   congr 1
   conv => lhs; rw [e]
   exact upto_append_lt 3 _ _ _ (by rw [byW3]; simp; omega)
  rw [h2]
  have := List.length_take_le f l
  omega
end Go.Gim

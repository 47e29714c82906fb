/- Plain facts on the treap of pieces and on counts of bytes: no program in sight. Conditions: none. -/
import Derived.WalkKit
namespace Go.Gim

/-! Counts of a text. -/
def brk (l : List UInt8) : Nat := l.countP (fun c => c == 10)
def run (l : List UInt8) : Nat := l.countP (fun c => c < 128 || 191 < c)
def big (l : List UInt8) : Nat := l.countP (fun c => 240 ≤ c)
def unt (l : List UInt8) : Nat := run l + big l
def byt (l : List UInt8) : Nat := l.length
def by_ (way : Nat) (l : List UInt8) : Nat := match way with | 0 => l.length | 1 => run l | 2 => unt l | _ => brk l
def tally (l : List UInt8) : Array Value := #[.int .i64 (byt l), .int .i64 (brk l), .int .i64 (run l), .int .i64 (unt l)]

theorem byt_append (a b : List UInt8) : byt (a ++ b) = byt a + byt b := List.length_append ..
theorem brk_append (a b : List UInt8) : brk (a ++ b) = brk a + brk b := List.countP_append ..
theorem run_append (a b : List UInt8) : run (a ++ b) = run a + run b := List.countP_append ..
theorem unt_append (a b : List UInt8) : unt (a ++ b) = unt a + unt b := by simp only [unt, run, big, List.countP_append]; omega
theorem brk_le (a : List UInt8) : brk a ≤ a.length := List.countP_le_length ..
theorem run_le (a : List UInt8) : run a ≤ a.length := List.countP_le_length ..
theorem unt_le (a : List UInt8) : unt a ≤ 2 * a.length := by
  have h1 : run a ≤ a.length := List.countP_le_length ..
  have h2 : big a ≤ a.length := List.countP_le_length ..
  simp only [unt]; omega


/-! The treap. -/
inductive T where
  | nil
  | node (b : Nat) (own : ByteArray) (prio : Int) (l r : T)

def T.addr : T → Option Addr
  | .nil => none
  | .node b _ _ _ _ => some ⟨b, 0, none⟩
def T.blocks : T → List Nat
  | .nil => []
  | .node b _ _ l r => b :: (l.blocks ++ r.blocks)
def T.text : T → List UInt8
  | .nil => []
  | .node _ own _ l r => l.text ++ (own.data.toList ++ r.text)
def T.owns : T → List ByteArray
  | .nil => []
  | .node _ own _ l r => l.owns ++ own :: r.owns
def T.size (t : T) : Nat := t.text.length
def T.Le (p : Int) : T → Prop
  | .nil => True
  | .node _ _ q _ _ => q ≤ p
def T.Heap : T → Prop
  | .nil => True
  | .node _ _ p l r => l.Le p ∧ r.Le p ∧ l.Heap ∧ r.Heap
def T.isNil : T → Bool
  | .nil => true
  | _ => false
def T.count : T → Nat
  | .nil => 0
  | .node _ _ _ l r => l.count + r.count + 1

def join (l : List ByteArray) : List UInt8 := l.flatMap (fun b => b.data.toList)
theorem join_append (a b : List ByteArray) : join (a ++ b) = join a ++ join b := by simp [join]
theorem join_cons (a : ByteArray) (b : List ByteArray) : join (a :: b) = a.data.toList ++ join b := by simp [join]
theorem T.text_owns (t : T) : t.text = join t.owns := by
  induction t with
  | nil => rfl
  | node b own p l r ihl ihr => simp [T.text, T.owns, join_append, join_cons, ihl, ihr]

/-- The sizes of pieces: each has 1 to 64 bytes, two neighbours together more than 64. -/
def Adj : List ByteArray → Prop
  | [] => True
  | [_] => True
  | a :: b :: r => 64 < a.size + b.size ∧ Adj (b :: r)
def Sized (l : List ByteArray) : Prop := ∀ x ∈ l, 1 ≤ x.size ∧ x.size ≤ 64
def Pcs (l : List ByteArray) : Prop := Sized l ∧ Adj l

/-- The length of the last piece, of the first; 64 of none (so that a sum with one of at least one byte passes 64). -/
def lastLen (l : List ByteArray) : Nat := match l.getLast? with | some x => x.size | none => 64
def firstLen (l : List ByteArray) : Nat := match l with | x :: _ => x.size | [] => 64

theorem lastLen_append_cons (a : List ByteArray) (x : ByteArray) (b : List ByteArray) : lastLen (a ++ x :: b) = lastLen (x :: b) := by
  simp [lastLen, List.getLast?_append, List.getLast?_cons]
theorem lastLen_single (a : List ByteArray) (x : ByteArray) : lastLen (a ++ [x]) = x.size := by simp [lastLen]
theorem lastLen_cons_cons (x y : ByteArray) (b : List ByteArray) : lastLen (x :: y :: b) = lastLen (y :: b) := by simp [lastLen]

theorem adj_cons {x : ByteArray} {l : List ByteArray} : Adj (x :: l) ↔ (l ≠ [] → 64 < x.size + firstLen l) ∧ Adj l := by
  cases l with
  | nil => simp [Adj]
  | cons y r => simp [Adj, firstLen]

theorem adj_append {a b : List ByteArray} : Adj (a ++ b) ↔ Adj a ∧ Adj b ∧ (a ≠ [] → b ≠ [] → 64 < lastLen a + firstLen b) := by
  induction a with
  | nil => simp [Adj]
  | cons x r ih =>
    cases r with
    | nil =>
      rw [List.cons_append, List.nil_append, adj_cons]
      simp [Adj, lastLen]
      constructor
      · rintro ⟨h1, h2⟩; exact ⟨h2, h1⟩
      · rintro ⟨h1, h2⟩; exact ⟨h2, h1⟩
    | cons y q =>
      have e1 : Adj (x :: (y :: q ++ b)) ↔ 64 < x.size + y.size ∧ Adj (y :: q ++ b) := by rw [adj_cons]; simp [firstLen]
      have e2 : Adj (x :: y :: q) ↔ 64 < x.size + y.size ∧ Adj (y :: q) := by rw [adj_cons]; simp [firstLen]
      rw [List.cons_append, e1, e2, ih, lastLen_cons_cons]
      constructor
      · rintro ⟨h1, h2, h3, h4⟩; exact ⟨⟨h1, h2⟩, h3, fun _ => h4 (by simp)⟩
      · rintro ⟨⟨h1, h2⟩, h3, h4⟩; exact ⟨h1, h2, h3, fun _ => h4 (by simp)⟩

theorem sized_append {a b : List ByteArray} : Sized (a ++ b) ↔ Sized a ∧ Sized b := by
  simp only [Sized, List.mem_append]
  constructor
  · intro h; exact ⟨fun x hx => h x (.inl hx), fun x hx => h x (.inr hx)⟩
  · rintro ⟨h1, h2⟩ x (hx | hx)
    · exact h1 x hx
    · exact h2 x hx

theorem good_append {a b : List ByteArray} : Pcs (a ++ b) ↔ Pcs a ∧ Pcs b ∧ (a ≠ [] → b ≠ [] → 64 < lastLen a + firstLen b) := by
  simp only [Pcs, sized_append, adj_append]
  constructor
  · rintro ⟨⟨h1, h2⟩, h3, h4, h5⟩; exact ⟨⟨h1, h3⟩, ⟨h2, h4⟩, h5⟩
  · rintro ⟨⟨h1, h3⟩, ⟨h2, h4⟩, h5⟩; exact ⟨⟨h1, h2⟩, h3, h4, h5⟩

theorem good_nil : Pcs [] := ⟨by simp [Sized], trivial⟩
theorem good_one {x : ByteArray} (h1 : 1 ≤ x.size) (h2 : x.size ≤ 64) : Pcs [x] := ⟨by simp [Sized, h1, h2], trivial⟩

theorem T.size_node (b : Nat) (own : ByteArray) (p : Int) (l r : T) : (T.node b own p l r).size = l.size + (own.size + r.size) := by
  simp [T.size, T.text]

theorem T.size_owns {t : T} {l : List ByteArray} (h : t.owns = l) : t.size = (join l).length := by rw [T.size, T.text_owns, h]
theorem T.size_join (t : T) : t.size = (join t.owns).length := T.size_owns rfl
theorem T.size_two {t a b : T} (h : t.owns = a.owns ++ b.owns) : t.size = a.size + b.size := by
  rw [T.size_owns h, join_append, List.length_append, ← T.size_join, ← T.size_join]

/-- t is what merge makes of a and b. -/
structure Merged (a b t : T) : Prop where
  owns : t.owns = a.owns ++ b.owns
  blocks : t.blocks.Perm (a.blocks ++ b.blocks)
  heap : a.Heap → b.Heap → t.Heap
  le : ∀ p, a.Le p → b.Le p → t.Le p

theorem T.Le.mono {t : T} {p q : Int} (h : t.Le p) (hq : p ≤ q) : t.Le q := by
  cases t with
  | nil => trivial
  | node => exact Int.le_trans h hq
theorem Merged.nil_left (b : T) : Merged .nil b b := ⟨rfl, List.Perm.refl _, fun _ h => h, fun _ _ h => h⟩
theorem Merged.nil_right (a : T) : Merged a .nil a := ⟨by simp [T.owns], by simp [T.blocks], fun h _ => h, fun _ h _ => h⟩
theorem Merged.right {ba bb : Nat} {oa ob : ByteArray} {pa pb : Int} {la ra lb rb t : T} (h : Merged ra (.node bb ob pb lb rb) t) (hp : pb ≤ pa) : Merged (.node ba oa pa la ra) (.node bb ob pb lb rb) (.node ba oa pa la t) := by
  refine ⟨?_, ?_, ?_, fun q h1 _ => h1⟩
  · simp only [T.owns]; rw [h.owns]; simp [T.owns]
  · have := h.blocks
    rw [show (T.node ba oa pa la t).blocks = ba :: (la.blocks ++ t.blocks) from rfl, show (T.node ba oa pa la ra).blocks = ba :: (la.blocks ++ ra.blocks) from rfl, List.cons_append, List.append_assoc]
    exact List.Perm.cons _ (List.Perm.append_left _ this)
  · rintro ⟨h1, h2, h3, h4⟩ hb
    exact ⟨h1, h.le pa h2 hp, h3, h.heap h4 hb⟩
theorem Merged.left {ba bb : Nat} {oa ob : ByteArray} {pa pb : Int} {la ra lb rb t : T} (h : Merged (.node ba oa pa la ra) lb t) (hp : pa ≤ pb) : Merged (.node ba oa pa la ra) (.node bb ob pb lb rb) (.node bb ob pb t rb) := by
  refine ⟨?_, ?_, ?_, fun q _ h2 => h2⟩
  · simp only [T.owns]; rw [h.owns]; simp [T.owns]
  · have := h.blocks
    rw [show (T.node bb ob pb t rb).blocks = bb :: (t.blocks ++ rb.blocks) from rfl, show (T.node bb ob pb lb rb).blocks = bb :: (lb.blocks ++ rb.blocks) from rfl]
    refine (List.Perm.cons _ (List.Perm.append_right _ this)).trans ?_
    rw [List.append_assoc]
    exact List.perm_middle.symm
  · rintro ha ⟨h1, h2, h3, h4⟩
    exact ⟨h.le pb hp h1, h2, h.heap ha h3, h4⟩

/-- t, parted in two. -/
structure Parted (t l r : T) : Prop where
  owns : t.owns = l.owns ++ r.owns
  blocks : (l.blocks ++ r.blocks).Perm t.blocks
  heap : t.Heap → l.Heap ∧ r.Heap
  le : t.Heap → ∀ p, t.Le p → l.Le p ∧ r.Le p
theorem Parted.nil : Parted .nil .nil .nil := ⟨rfl, List.Perm.refl _, fun h => ⟨h, h⟩, fun _ _ h => ⟨h, h⟩⟩
theorem Parted.right {b : Nat} {own : ByteArray} {p : Int} {tl tr l r : T} (h : Parted tr l r) : Parted (.node b own p tl tr) (.node b own p tl l) r := by
  refine ⟨by simp [T.owns, h.owns], ?_, ?_, ?_⟩
  · show (b :: (tl.blocks ++ l.blocks) ++ r.blocks).Perm (b :: (tl.blocks ++ tr.blocks))
    rw [List.cons_append, List.append_assoc]
    exact List.Perm.cons _ (List.Perm.append_left _ h.blocks)
  · rintro ⟨h1, h2, h3, h4⟩
    exact ⟨⟨h1, (h.le h4 p h2).1, h3, (h.heap h4).1⟩, (h.heap h4).2⟩
  · rintro ⟨h1, h2, h3, h4⟩ q hq
    exact ⟨hq, (h.le h4 p h2).2.mono hq⟩
theorem Parted.left {b : Nat} {own : ByteArray} {p : Int} {tl tr l r : T} (h : Parted tl l r) : Parted (.node b own p tl tr) l (.node b own p r tr) := by
  refine ⟨by simp [T.owns, h.owns], ?_, ?_, ?_⟩
  · show (l.blocks ++ b :: (r.blocks ++ tr.blocks)).Perm (b :: (tl.blocks ++ tr.blocks))
    refine List.perm_middle.trans (List.Perm.cons _ ?_)
    rw [← List.append_assoc]
    exact List.Perm.append_right _ h.blocks
  · rintro ⟨h1, h2, h3, h4⟩
    exact ⟨(h.heap h3).1, ⟨(h.le h3 p h1).2, h2, (h.heap h3).2, h4⟩⟩
  · rintro ⟨h1, h2, h3, h4⟩ q hq
    exact ⟨(h.le h3 p h1).1.mono hq, hq⟩
theorem Parted.size {t l r : T} (h : Parted t l r) : t.size = l.size + r.size := T.size_two h.owns

theorem firstLen_append {a b : List ByteArray} (h : a ≠ []) : firstLen (a ++ b) = firstLen a := by
  cases a with
  | nil => exact absurd rfl h
  | cons => rfl

/-- Where ends, begins part it. -/
def EndsAt (a : Int) (l r : T) : Prop := (l.size : Int) ≤ a ∧ (r.owns = [] ∨ a < l.size + firstLen r.owns)
def BeginsAt (a : Int) (l r : T) : Prop := (r.owns = [] ∨ a ≤ l.size) ∧ (l.owns = [] ∨ (l.size : Int) - lastLen l.owns < a)

theorem T.size_of_owns {t u : T} (h : t.owns = u.owns) : t.size = u.size := by rw [T.size_join, T.size_join, h]

theorem EndsAt.nil {a : Int} (h : 0 ≤ a) : EndsAt a .nil .nil := ⟨by simpa [T.size, T.text] using h, .inl rfl⟩
theorem EndsAt.right {b : Nat} {own : ByteArray} {p : Int} {tl l r : T} {a : Int} (h : EndsAt (a - (tl.size + own.size)) l r) : EndsAt a (.node b own p tl l) r := by
  obtain ⟨h1, h2⟩ := h
  have e := T.size_node b own p tl l
  refine ⟨by omega, h2.imp id (fun h => ?_)⟩
  omega
theorem EndsAt.left {b : Nat} {own : ByteArray} {p : Int} {tl tr l r : T} {a : Int} (h : EndsAt a l r) (hp : Parted tl l r) (ha : a < tl.size + own.size) : EndsAt a l (.node b own p r tr) := by
  obtain ⟨h1, h2⟩ := h
  refine ⟨h1, .inr ?_⟩
  by_cases hr : r.owns = []
  · have e : tl.size = l.size := T.size_of_owns (by rw [hp.owns, hr, List.append_nil])
    simp only [T.owns, hr, List.nil_append, firstLen]
    omega
  · have h3 := h2.resolve_left hr
    simp only [T.owns]
    rw [firstLen_append hr]; exact h3

theorem BeginsAt.nil {a : Int} : BeginsAt a .nil .nil := ⟨.inl rfl, .inl rfl⟩
theorem BeginsAt.right {b : Nat} {own : ByteArray} {p : Int} {tl l r : T} {a : Int} (h : BeginsAt (a - tl.size - own.size) l r) (ha : (tl.size : Int) < a) : BeginsAt a (.node b own p tl l) r := by
  obtain ⟨h1, h2⟩ := h
  have e := T.size_node b own p tl l
  refine ⟨h1.imp id (fun h => by omega), .inr ?_⟩
  simp only [T.owns]
  cases hl : l.owns with
  | nil =>
    rw [lastLen_single]
    have : l.size = 0 := by rw [T.size_join, hl]; rfl
    omega
  | cons x q =>
    rw [lastLen_append_cons, lastLen_cons_cons]
    rw [hl] at h2
    have h3 := h2.resolve_left (by simp)
    omega
theorem BeginsAt.left {b : Nat} {own : ByteArray} {p : Int} {tl tr l r : T} {a : Int} (h : BeginsAt a l r) (hp : Parted tl l r) (ha : a ≤ tl.size) : BeginsAt a l (.node b own p r tr) := by
  obtain ⟨h1, h2⟩ := h
  refine ⟨.inr ?_, h2⟩
  rcases h1 with h1 | h1
  · have e : tl.size = l.size := T.size_of_owns (by rw [hp.owns, h1, List.append_nil])
    omega
  · exact h1

end Go.Gim

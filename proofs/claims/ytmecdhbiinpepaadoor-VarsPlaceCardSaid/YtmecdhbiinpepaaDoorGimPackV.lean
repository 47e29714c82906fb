/- Rows of pairs of strings (variables): how they are read, as the call's own, a value stored. Conditions: none. -/
import Derived.Test.YtmecdhbiinpepaaDoorGimLaw
import Derived.Test.YtmecdhbiinpepaaDoorGimPackA
import Derived.Lib.SmallJoins
import Derived.WalkKit
namespace Go.Gim
open Go Go.RowKit

/-- A variable: its name, its value. -/
abbrev Pv := ByteArray × ByteArray
def spCells1 (x : Pv) : List Value := [.string x.1, .string x.2]
def spCells (L : List Pv) : List Value := (L.map spCells1).flatten
theorem spCells_cons (x : Pv) (r : List Pv) : spCells (x :: r) = .string x.1 :: .string x.2 :: spCells r := rfl
theorem spCells_len (L : List Pv) : (spCells L).length = L.length * 2 := by
  induction L with
  | nil => rfl
  | cons x r ih => rw [spCells_cons]; simp only [List.length_cons, ih]; omega
theorem spCells_append (a b : List Pv) : spCells (a ++ b) = spCells a ++ spCells b := by
  unfold spCells; rw [List.map_append, List.flatten_append]
theorem spCells_at (L : List Pv) : ∀ (i : Nat) (x : Pv), L[i]? = some x → (spCells L)[i * 2]? = some (.string x.1) ∧ (spCells L)[i * 2 + 1]? = some (.string x.2) := by
  induction L with
  | nil => intro i x h; simp at h
  | cons y r ih =>
    intro i x h
    cases i with
    | zero => simp at h; subst h; exact ⟨rfl, rfl⟩
    | succ i =>
      have := ih i x (by simpa using h)
      rw [spCells_cons, show (i + 1) * 2 = i * 2 + 1 + 1 from by omega]
      exact this
theorem spCells_one (L : List Pv) : ∀ u ∈ spCells L, u.oneCell' = true := by
  intro u hu
  obtain ⟨l, hl, hu⟩ := List.mem_flatten.1 hu
  obtain ⟨x, _, rfl⟩ := List.mem_map.1 hl
  simp only [spCells1, List.mem_cons, List.not_mem_nil, or_false] at hu
  rcases hu with rfl | rfl <;> rfl
theorem two_strings (p q : ByteArray) : ∀ u ∈ [Value.string p, Value.string q], u.oneCell' = true := spCells_one [(p, q)]
theorem reads_sp {w : World} {b off n : Nat} {L : List Pv} (h : Reads w 2 (some ⟨b, off, none⟩) n (spCells L)) {i : Nat} {x : Pv} (hx : L[i]? = some x) :
    w.cell? ⟨b, off + i * 2, none⟩ = some (.string x.1) ∧ w.cell? ⟨b, off + i * 2 + 1, none⟩ = some (.string x.2) := by
  have hi := (List.getElem?_eq_some_iff.1 hx).1
  have hl := spCells_len L
  have hn : 0 < n := by have := h.1; omega
  obtain ⟨b', off', he, hc⟩ := h.2 hn
  cases he
  obtain ⟨h1, h2⟩ := spCells_at L i x hx
  exact ⟨by rw [hc _ (by omega)]; exact h1, by rw [Nat.add_assoc, hc _ (by omega)]; exact h2⟩
theorem reads_sp_len {w : World} {ao : Option Addr} {n : Nat} {L : List Pv} (h : Reads w 2 ao n (spCells L)) : L.length = n := by
  have h1 := h.1; rw [spCells_len] at h1; omega
theorem spCells_setB (l : List Pv) : ∀ (k : Nat) (x : Pv) (b : ByteArray), l[k]? = some x → spCells (l.set k (x.1, b)) = (spCells l).set (k * 2 + 1) (.string b) := by
  induction l with
  | nil => intro k x a h; simp at h
  | cons y r ih =>
    intro k x a h
    cases k with
    | zero => simp at h; subst h; rfl
    | succ k =>
      rw [List.set_cons_succ, spCells_cons, spCells_cons, ih k x a (by simpa using h), show (k + 1) * 2 = k * 2 + 1 + 1 from by omega]
      simp
theorem ownsS_at {w : World} {B g c n : Nat} {T : TypeId} {l : List Pv} (h : w.ownsRow B T 2 (.slice (some ⟨g, 0, none⟩) n c) n (spCells l)) :
    ∃ cur : Array Value, Blk w g T cur ∧ B ≤ g ∧ n ≤ c ∧ c ≤ maxLen ∧ cur.size = c * 2 ∧ cur.toList.take (n * 2) = spCells l := by
  rcases h.2 with ⟨h1, _⟩ | ⟨g', c', cur, h1, h2, h3, h4, h5, h6, h7⟩
  · cases h1
  · cases h1; exact ⟨cur, h3, h2, h4, h5, h6, h7⟩
theorem ownsS_len {w : World} {B n : Nat} {T : TypeId} {v : Value} {l : List Pv} (h : w.ownsRow B T 2 v n (spCells l)) : l.length = n := by
  have h1 := h.1; rw [spCells_len] at h1; omega
theorem ownsS_cell {w : World} {B g c n : Nat} {T : TypeId} {l : List Pv} (h : w.ownsRow B T 2 (.slice (some ⟨g, 0, none⟩) n c) n (spCells l)) {k : Nat} {x : Pv} (hx : l[k]? = some x) :
    w.cell? ⟨g, k * 2, none⟩ = some (.string x.1) ∧ w.cell? ⟨g, k * 2 + 1, none⟩ = some (.string x.2) := by
  have h1 := reads_sp (Reads.own h) hx
  simpa using h1
theorem ownsS_free {w : World} {B g c n : Nat} {T : TypeId} {l : List Pv} (h : w.ownsRow B T 2 (.slice (some ⟨g, 0, none⟩) n c) n (spCells l)) (k : Nat) : w.frozen? ⟨g, k, none⟩ = false := by
  obtain ⟨cur, hb, _⟩ := ownsS_at h; exact hb.free k
theorem ownsS_setB {w : World} {B g c n : Nat} {T : TypeId} {l : List Pv} (h : w.ownsRow B T 2 (.slice (some ⟨g, 0, none⟩) n c) n (spCells l)) {k : Nat} {x : Pv} (hx : l[k]? = some x) (b : ByteArray) :
    (w.setCell ⟨g, k * 2 + 1, none⟩ (.string b)).ownsRow B T 2 (.slice (some ⟨g, 0, none⟩) n c) n (spCells (l.set k (x.1, b))) := by
  have hl := ownsS_len h
  obtain ⟨cur, hb, hB, h1, h2, h3, h4⟩ := ownsS_at h
  refine ⟨by rw [spCells_len, List.length_set, hl], .inr ⟨g, c, _, rfl, hB, hb.set (k * 2 + 1) _, h1, h2, by simp [h3], ?_⟩⟩
  rw [spCells_setB l k x b hx, ← h4]
  simp only [Array.toList_setIfInBounds, List.take_set]
theorem ownsS_block {w : World} {B g c n : Nat} {T : TypeId} {l : List Pv} (h : w.ownsRow B T 2 (.slice (some ⟨g, 0, none⟩) n c) n (spCells l)) : B ≤ g ∧ g < w.heap.size := by
  obtain ⟨cur, hb, hB, _⟩ := ownsS_at h; exact ⟨hB, hb.lt⟩
theorem ownsS_some {w : World} {B n : Nat} {T : TypeId} {v : Value} {l : List Pv} (h : w.ownsRow B T 2 v n (spCells l)) (h0 : 0 < n) : ∃ g c, v = .slice (some ⟨g, 0, none⟩) n c := by
  rcases h.2 with ⟨_, h1⟩ | ⟨g', c', cur, h1, _⟩
  · omega
  · exact ⟨g', c', h1⟩
theorem ownsS_reads {w : World} {B n : Nat} {T : TypeId} {v : Value} {l : List Pv} (h : w.ownsRow B T 2 v n (spCells l)) : ∃ ao c, v = .slice ao n c ∧ Reads w 2 ao n (spCells l) := by
  obtain ⟨ao, c, rfl, _, _⟩ := ownsRow_shape h
  exact ⟨ao, c, rfl, Reads.own h⟩
end Go.Gim
namespace Go.Proofs.YtmecdhbiinpepaaDoor
open Go.ChangeShapes Go.WideShapes Go.ChangeAt Go.RowKit Go.Gim

/-- A slice of structs of two strings that came in. -/
theorem open_pvs {H : Type} {enc : TypeId × Value → H} {P : Program} {W : World} {b0 : Nat} {t e : TypeId} {f0 f1 : Field} {v : Value} {d : DataW H} {ps : List MemPlace} (ht : P.underlying t = some (.slice e)) (he : P.underlying e = some (.struct #[f0, f1])) (hone : Go.Deep.oneCellFields P #[f0, f1] = true) (hc : P.cellsOf e = 2)
    (u0 : P.underlying f0.type = some .string) (u1 : P.underlying f1.type = some .string)
    (hval : Value.okWide P W .any b0 t v) (hd : DataW.Trod enc P W 0 (fun _ => true) true t v d ps) :
    ∃ (ao : Option Addr) (cap : Nat) (L : List Pv), v = .slice ao L.length cap ∧ Reads W 2 ao L.length (spCells L) ∧ L.length ≤ maxLen ∧ ∀ x ∈ L, x.1.size ≤ maxLen ∧ x.2.size ≤ maxLen := by
  obtain ⟨ao, cap, els, rfl, hr, hm, hel⟩ := open_slice_reads (enc := enc) 2 ht hc (by omega) hval hd
  obtain ⟨L, rfl, hq⟩ := list_choose spCells1 (fun x => x.1.size ≤ maxLen ∧ x.2.size ≤ maxLen) els (fun el h => by
    obtain ⟨hl, n, x, hx⟩ := hel el h
    obtain ⟨y0, y1, m, _, _, g0, g1⟩ := trod_struct2 he hx
    obtain ⟨c0, c1, hcs⟩ := Go.Joins.array2 (cs := el.toArray) (by simpa using hl)
    have hcs : el = [c0, c1] := by simpa using congrArg Array.toList hcs
    subst hcs
    obtain ⟨o0, k0⟩ := Go.Deep.hone_of hone 0 f0 rfl
    obtain ⟨o1, k1⟩ := Go.Deep.hone_of hone 1 f1 rfl
    rw [o0, k0] at g0
    rw [o1, k1] at g1
    obtain ⟨a0, e0, _, l0⟩ := DataW.trod_string u0 g0
    obtain ⟨a1, e1, _, l1⟩ := DataW.trod_string u1 g1
    simp at e0 e1
    subst e0 e1
    exact ⟨⟨a0, a1⟩, rfl, l0, l1⟩)
  rw [show (L.map spCells1).flatten = spCells L from rfl, List.length_map] at hr
  rw [List.length_map] at hm ⊢
  exact ⟨ao, cap, L, rfl, hr, hm, hq⟩
end Go.Proofs.YtmecdhbiinpepaaDoor

/- Names of variables, plain. Conditions: none. -/
namespace Go.Gim
def letB (c : UInt8) : Bool := decide (97 ≤ c.toNat ∧ c.toNat ≤ 122 ∨ 65 ≤ c.toNat ∧ c.toNat ≤ 90)
def digB (c : UInt8) : Bool := decide (48 ≤ c.toNat ∧ c.toNat ≤ 57)
/-- A letter, a digit or _. -/
def nbB (c : UInt8) : Bool := decide (97 ≤ c.toNat ∧ c.toNat ≤ 122 ∨ 65 ≤ c.toNat ∧ c.toNat ≤ 90 ∨ 48 ≤ c.toNat ∧ c.toNat ≤ 57 ∨ c.toNat = 95)
/-- May a byte stand at a place of a name? -/
def nokB (c : UInt8) (k : Nat) : Bool := nbB c && (decide (0 < k) || decide (57 < c.toNat))
/-- May all bytes from place k on? -/
def restB : List UInt8 → Nat → Bool
  | [], _ => true
  | c :: r, k => nokB c k && restB r (k + 1)
def nameL (l : List UInt8) : Bool := decide (0 < l.length) && decide (l.length ≤ 64) && restB l 0
theorem restB_drop (l : List UInt8) (k : Nat) (h : k < l.length) : restB (l.drop k) k = (nokB l[k] k && restB (l.drop (k + 1)) (k + 1)) := by
  rw [List.drop_eq_getElem_cons h]; rfl
theorem nokB_ref (c : UInt8) (k : Nat) : nokB c k = !(!letB c && !decide (c.toNat = 95) && (decide (k = 0) || !digB c)) := by
  unfold nokB nbB letB digB
  rw [Bool.eq_iff_iff]
  simp
  omega
end Go.Gim

/- Variables, plain: told, set, refused. Conditions: none. -/
namespace Go.Gim
/-- A variable's value. -/
def getV (n : ByteArray) : List Pv → Option ByteArray
  | [] => none
  | x :: r => if x.1 = n then some x.2 else getV n r
/-- The first place of a name; as many as there are: none. -/
def idxV (n : ByteArray) : List Pv → Nat
  | [] => 0
  | x :: r => if x.1 = n then 0 else idxV n r + 1
def setE (n v : ByteArray) (l : List Pv) : Int :=
  if nameL n.data.toList = false then 2 else if 65536 < v.size then 4 else if idxV n l < l.length then 0 else if 64 ≤ l.length then 7 else 0
def putV (n v : ByteArray) (l : List Pv) : List Pv := if idxV n l < l.length then l.set (idxV n l) (n, v) else l ++ [(n, v)]
def setL (n v : ByteArray) (l : List Pv) : List Pv := if setE n v l = 0 then putV n v l else []

theorem idxV_le (n : ByteArray) (l : List Pv) : idxV n l ≤ l.length := by
  induction l with
  | nil => exact Nat.le_refl _
  | cons x r ih => unfold idxV; split <;> simp <;> omega
theorem idxV_at {n : ByteArray} {l : List Pv} (h : idxV n l < l.length) : ∃ v, l[idxV n l]? = some (n, v) := by
  induction l with
  | nil => simp at h
  | cons x r ih =>
    unfold idxV at h ⊢
    split at h
    · rename_i hx
      rw [if_pos hx]
      exact ⟨x.2, by rw [← hx]; rfl⟩
    · rename_i hx
      rw [if_neg hx]
      exact ih (by simpa using h)
theorem getV_none {n : ByteArray} {l : List Pv} (h : ¬ idxV n l < l.length) : getV n l = none := by
  induction l with
  | nil => rfl
  | cons x r ih =>
    unfold idxV at h
    unfold getV
    split at h
    · simp at h
    · rename_i hx; rw [if_neg hx]; exact ih (by simpa using h)
theorem getV_drop (n : ByteArray) (l : List Pv) (k : Nat) (x : Pv) (h : l[k]? = some x) : getV n (l.drop k) = if x.1 = n then some x.2 else getV n (l.drop (k + 1)) := by
  obtain ⟨hk, rfl⟩ := List.getElem?_eq_some_iff.1 h
  rw [List.drop_eq_getElem_cons hk]; rfl
theorem idxV_drop (n : ByteArray) (l : List Pv) (k : Nat) (x : Pv) (h : l[k]? = some x) : idxV n (l.drop k) = if x.1 = n then 0 else idxV n (l.drop (k + 1)) + 1 := by
  obtain ⟨hk, rfl⟩ := List.getElem?_eq_some_iff.1 h
  rw [List.drop_eq_getElem_cons hk]; rfl
theorem getV_set_self (n v : ByteArray) : ∀ l : List Pv, getV n (putV n v l) = some v := by
  intro l
  induction l with
  | nil => simp [putV, idxV, getV]
  | cons x r ih =>
    unfold putV idxV
    by_cases hx : x.1 = n
    · simp [hx, getV]
    · simp only [if_neg hx]
      unfold putV at ih
      by_cases hi : idxV n r < r.length
      · rw [if_pos (by simp; omega), List.set_cons_succ]
        rw [if_pos hi] at ih
        unfold getV; rw [if_neg hx]; exact ih
      · rw [if_neg (by simp; omega)]
        rw [if_neg hi] at ih
        show getV n (x :: (r ++ [(n, v)])) = _
        unfold getV; rw [if_neg hx]; exact ih
theorem getV_set_other {m n : ByteArray} (v : ByteArray) (hm : m ≠ n) : ∀ l : List Pv, getV m (putV n v l) = getV m l := by
  intro l
  induction l with
  | nil => simp [putV, idxV, getV, Ne.symm hm]
  | cons x r ih =>
    unfold putV idxV
    by_cases hx : x.1 = n
    · simp only [if_pos hx]
      rw [if_pos (by simp), List.set_cons_zero]
      unfold getV
      rw [if_neg (Ne.symm hm), if_neg (by rw [hx]; exact Ne.symm hm)]
    · simp only [if_neg hx]
      unfold putV at ih
      by_cases hi : idxV n r < r.length
      · rw [if_pos (by simp; omega), List.set_cons_succ]
        rw [if_pos hi] at ih
        unfold getV; rw [ih]
      · rw [if_neg (by simp; omega)]
        rw [if_neg hi] at ih
        show getV m (x :: (r ++ [(n, v)])) = _
        unfold getV; rw [ih]
theorem putV_len (n v : ByteArray) (l : List Pv) : (putV n v l).length = if idxV n l < l.length then l.length else l.length + 1 := by
  unfold putV; split <;> simp
end Go.Gim

/- Two unlike names set in either order, plainly. Conditions: none. -/
namespace Go.Gim
theorem idxV_iff (n : ByteArray) : ∀ l : List Pv, (getV n l).isSome = decide (idxV n l < l.length) := by
  intro l
  induction l with
  | nil => rfl
  | cons x r ih =>
    unfold getV idxV
    by_cases h : x.1 = n
    · simp [h]
    · simp [h, ih]
theorem setE_zero {n v : ByteArray} {l : List Pv} (h : setE n v l = 0) : nameL n.data.toList = true ∧ ¬ 65536 < v.size := by
  unfold setE at h
  split at h
  · cases h
  · rename_i h1
    split at h
    · cases h
    · rename_i h2
      exact ⟨by simpa using h1, h2⟩
theorem setE_less {n v : ByteArray} {l : List Pv} (h1 : nameL n.data.toList = true) (h2 : ¬ 65536 < v.size) (h3 : l.length < 64) : setE n v l = 0 := by
  unfold setE
  rw [if_neg (by rw [h1]; decide), if_neg h2]
  split
  · rfl
  · rw [if_neg (by omega)]
theorem putV_len2 {a b x y : ByteArray} (h : a ≠ b) (l : List Pv) : (putV b y (putV a x l)).length = (putV a x (putV b y l)).length := by
  have e1 : decide (idxV b (putV a x l) < (putV a x l).length) = decide (idxV b l < l.length) := by
    rw [← idxV_iff, ← idxV_iff, getV_set_other x (fun e => h e.symm)]
  have e2 : decide (idxV a (putV b y l) < (putV b y l).length) = decide (idxV a l < l.length) := by
    rw [← idxV_iff, ← idxV_iff, getV_set_other y h]
  simp only [decide_eq_decide] at e1 e2
  rw [putV_len b y, putV_len a x (putV b y l)]
  simp only [e1, e2]
  rw [putV_len, putV_len]
  split <;> split <;> omega
theorem turns_get {a b x y : ByteArray} (h : a ≠ b) (c : ByteArray) (l : List Pv) : getV c (putV b y (putV a x l)) = getV c (putV a x (putV b y l)) := by
  by_cases ha : c = a
  · subst ha
    rw [getV_set_other y h, getV_set_self, getV_set_self]
  · by_cases hb : c = b
    · subst hb
      rw [getV_set_self, getV_set_other x (fun e => h e.symm), getV_set_self]
    · rw [getV_set_other y hb, getV_set_other x ha, getV_set_other x ha, getV_set_other y hb]
/-- What the law asks. -/
theorem turns {a b x y : ByteArray} {l : List Pv} (h : a ≠ b) (hl : l.length ≤ 40) (e1 : setE a x l = 0) (e2 : setE b y l = 0) :
    setE b y (setL a x l) = 0 ∧ setE a x (setL b y l) = 0 ∧ (setL b y (setL a x l)).length = (setL a x (setL b y l)).length ∧ getV a (setL b y (setL a x l)) = some x ∧ getV b (setL a x (setL b y l)) = some y ∧
      (∀ c, getV c (setL b y (setL a x l)) = getV c (setL a x (setL b y l))) ∧ (setL a x l).length ≤ 41 ∧ (setL b y l).length ≤ 41 ∧ (setL b y (setL a x l)).length ≤ 42 := by
  have l1 : (putV a x l).length ≤ 41 := by rw [putV_len]; split <;> omega
  have l2 : (putV b y l).length ≤ 41 := by rw [putV_len]; split <;> omega
  have l3 : (putV b y (putV a x l)).length ≤ 42 := by rw [putV_len]; split <;> omega
  have s1 : setL a x l = putV a x l := if_pos e1
  have s2 : setL b y l = putV b y l := if_pos e2
  obtain ⟨na, va⟩ := setE_zero e1
  obtain ⟨nb, vb⟩ := setE_zero e2
  have f1 : setE b y (putV a x l) = 0 := setE_less nb vb (by omega)
  have f2 : setE a x (putV b y l) = 0 := setE_less na va (by omega)
  rw [s1, s2]
  have s3 : setL b y (putV a x l) = putV b y (putV a x l) := if_pos f1
  have s4 : setL a x (putV b y l) = putV a x (putV b y l) := if_pos f2
  rw [s3, s4]
  exact ⟨f1, f2, putV_len2 h l, by rw [getV_set_other y h, getV_set_self], by rw [getV_set_other x (fun e => h e.symm), getV_set_self], fun c => turns_get h c l, l1, l2, l3⟩
end Go.Gim

/- Digits of a number, and what is set one behind the other, plainly. Conditions: numbers below 100000. -/
namespace Go.Gim
/-- A digit, as a string. -/
def dig1 (n : Nat) : ByteArray := ⟨#[UInt8.ofNat (48 + n % 10)]⟩
/-- The document's loop: what is left of the number, what is told already; at most so many rounds. -/
def digR : Nat → Nat → ByteArray → ByteArray
  | 0, _, s => s
  | f + 1, n, s => if 10 ≤ n then digR f (n / 10) (dig1 (n / 10) ++ s) else s
def digS (n : Nat) : ByteArray := digR 5 n (dig1 n)
theorem digR_stop {f n : Nat} {s : ByteArray} (h : ¬ 10 ≤ n) : digR f n s = s := by
  cases f with
  | zero => rfl
  | succ f => exact if_neg h
theorem digR_go {f n : Nat} {s : ByteArray} (h : 10 ≤ n) (hf : n < 10 ^ (f + 1)) : ∃ g, f = g + 1 ∧ n / 10 < 10 ^ (g + 1) ∧ digR f n s = digR g (n / 10) (dig1 (n / 10) ++ s) := by
  cases f with
  | zero => simp at hf; omega
  | succ g => exact ⟨g, rfl, by rw [Nat.pow_succ] at hf; omega, if_pos h⟩
/-- The variable of a number. -/
def vN (i : Nat) : ByteArray := ⟨#[118]⟩ ++ digS i
def manyL (i : Nat) : List Pv := (List.range i).map (fun j => (vN j, digS (j * j)))
theorem manyL_len (i : Nat) : (manyL i).length = i := by simp [manyL]
theorem manyL_succ (i : Nat) : manyL (i + 1) = manyL i ++ [(vN i, digS (i * i))] := by simp [manyL, List.range_succ]
def valS (b : ByteArray) : Nat := b.data.toList.foldl (fun a c => a * 10 + c.toNat - 48) 0
theorem vN_val : ∀ i, i < 70 → valS ⟨(vN i).data.extract 1 9⟩ = i := by decide +kernel
theorem vN_name : ∀ i, i < 70 → nameL (vN i).data.toList = true := by decide +kernel
theorem vN_size : ∀ i, i < 70 → (vN i).size ≤ 60 := by decide +kernel
theorem digS_size : ∀ i, i < 70 → (digS (i * i)).size ≤ 60 := by decide +kernel
theorem vN_inj {i j : Nat} (hi : i < 70) (hj : j < 70) (h : vN i = vN j) : i = j := by
  rw [← vN_val i hi, ← vN_val j hj, h]
theorem idx_many (k : Nat) (hk : k < 70) : ∀ i, i ≤ 70 → idxV (vN k) (manyL i) = if k < i then k else i := by
  have gen : ∀ (l : List Pv) (x : Pv) (n : ByteArray), idxV n (l ++ [x]) = if idxV n l < l.length then idxV n l else if x.1 = n then l.length else l.length + 1 := by
    intro l x n
    induction l with
    | nil => simp [idxV]
    | cons y r ih =>
      simp only [List.cons_append, idxV, List.length_cons]
      by_cases hy : y.1 = n
      · simp [hy]
      · simp only [if_neg hy, ih]
        by_cases hr : idxV n r < r.length
        · simp only [Nat.add_lt_add_iff_right, if_pos hr]
        · simp only [Nat.add_lt_add_iff_right, if_neg hr]
          split <;> rfl
  intro i
  induction i with
  | zero => intro _; rfl
  | succ i ih =>
    intro hi
    rw [manyL_succ, gen, manyL_len, ih (by omega)]
    by_cases h1 : k < i
    · rw [if_pos h1, if_pos h1, if_pos (by omega)]
    · rw [if_neg h1, if_neg (Nat.lt_irrefl _)]
      by_cases h2 : k = i
      · subst h2; rw [if_pos rfl, if_pos (by omega)]
      · rw [if_neg (fun e => h2 (vN_inj (by omega) hk e).symm), if_neg (by omega)]
/-- Behind so many. -/
def manyN (i : Nat) : List Pv := manyL (min i 64)
theorem set_less (i : Nat) (h : i < 64) : setE (vN i) (digS (i * i)) (manyL i) = 0 ∧ setL (vN i) (digS (i * i)) (manyL i) = manyL (i + 1) := by
  have hi := idx_many i (by omega) i (by omega)
  rw [if_neg (Nat.lt_irrefl _)] at hi
  have h0 : setE (vN i) (digS (i * i)) (manyL i) = 0 := by
    unfold setE
    rw [if_neg (by rw [vN_name i (by omega)]; decide), if_neg (by have := digS_size i (by omega); omega), manyL_len, hi, if_neg (Nat.lt_irrefl _), if_neg (by omega)]
  refine ⟨h0, ?_⟩
  unfold setL putV
  rw [if_pos h0, manyL_len, hi, if_neg (Nat.lt_irrefl _), manyL_succ]
theorem set_full (i : Nat) (h : 64 ≤ i) (h2 : i < 70) (v : ByteArray) (hv : v.size ≤ 60) : setE (vN i) v (manyL 64) = 7 ∧ setL (vN i) v (manyL 64) = [] := by
  have hi := idx_many i h2 64 (by omega)
  rw [if_neg (by omega)] at hi
  have h0 : setE (vN i) v (manyL 64) = 7 := by
    unfold setE
    rw [if_neg (by rw [vN_name i h2]; decide), if_neg (by omega), manyL_len, hi, if_neg (Nat.lt_irrefl _), if_pos (by omega)]
  exact ⟨h0, by unfold setL; rw [h0]; rfl⟩
theorem set_again (k n : Nat) (h : k < n) (h2 : n ≤ 64) (v : ByteArray) (hv : v.size ≤ 60) : setE (vN k) v (manyL n) = 0 ∧ setL (vN k) v (manyL n) = (manyL n).set k (vN k, v) := by
  have hi := idx_many k (by omega) n (by omega)
  rw [if_pos h] at hi
  have h0 : setE (vN k) v (manyL n) = 0 := by
    unfold setE
    rw [if_neg (by rw [vN_name k (by omega)]; decide), if_neg (by omega), manyL_len, hi, if_pos h]
  refine ⟨h0, ?_⟩
  unfold setL putV
  rw [if_pos h0, manyL_len, hi, if_pos h]
theorem getV_of_idx (n : ByteArray) (l : List Pv) (x : Pv) (h : l[idxV n l]? = some x) : getV n l = some x.2 := by
  induction l with
  | nil => simp at h
  | cons y r ih =>
    unfold idxV at h
    unfold getV
    split
    · rename_i hy; rw [if_pos hy] at h; simp at h; rw [h]
    · rename_i hy; rw [if_neg hy] at h; exact ih (by simpa using h)
theorem get_many (i n : Nat) (h : i < n) (h2 : n ≤ 64) : getV (vN i) (manyL n) = some (digS (i * i)) := by
  have hi := idx_many i (by omega) n (by omega)
  rw [if_pos h] at hi
  refine getV_of_idx _ _ (vN i, digS (i * i)) ?_
  rw [hi]
  simp [manyL, h]
theorem get_again (i k n : Nat) (h : i < n) (hk : k < n) (h2 : n ≤ 64) (v : ByteArray) (hv : v.size ≤ 60) :
    getV (vN i) (setL (vN k) v (manyL n)) = some (if i = k then v else digS (i * i)) := by
  obtain ⟨h0, _⟩ := set_again k n hk h2 v hv
  unfold setL
  rw [if_pos h0]
  by_cases hik : i = k
  · subst hik; rw [if_pos rfl]; exact getV_set_self _ _ _
  · rw [if_neg hik, getV_set_other _ (fun e => hik (vN_inj (by omega) (by omega) e))]
    exact get_many i n h h2
end Go.Gim

/- Slices of pairs of integers (selections, stretches, [2]int) as they come in: how a row of them is read. Conditions: none. -/
import Derived.Test.YtmecdhbiinpepaaGimLaw
import Derived.Test.YtmecdhbiinpepaaGimPackA
import Derived.Lib.SmallJoins
import Derived.OpenShut
import Derived.WalkKit
import Derived.Orders
namespace Go.Gim
open Go Go.RowKit

def prCells1 (x : Int × Int) : List Value := [.int .i64 x.1, .int .i64 x.2]
def prCells (L : List (Int × Int)) : List Value := (L.map prCells1).flatten
theorem prCells_cons (x : Int × Int) (r : List (Int × Int)) : prCells (x :: r) = .int .i64 x.1 :: .int .i64 x.2 :: prCells r := rfl
theorem prCells_len (L : List (Int × Int)) : (prCells L).length = L.length * 2 := by
  induction L with
  | nil => rfl
  | cons x r ih => rw [prCells_cons]; simp only [List.length_cons, ih]; omega
theorem prCells_append (a b : List (Int × Int)) : prCells (a ++ b) = prCells a ++ prCells b := by
  unfold prCells; rw [List.map_append, List.flatten_append]
theorem prCells_at (L : List (Int × Int)) : ∀ (i : Nat) (x : Int × Int), L[i]? = some x → (prCells L)[i * 2]? = some (.int .i64 x.1) ∧ (prCells L)[i * 2 + 1]? = some (.int .i64 x.2) := by
  induction L with
  | nil => intro i x h; simp at h
  | cons y r ih =>
    intro i x h
    cases i with
    | zero => simp at h; subst h; exact ⟨rfl, rfl⟩
    | succ i =>
      have := ih i x (by simpa using h)
      rw [prCells_cons, show (i + 1) * 2 = i * 2 + 1 + 1 from by omega]
      exact this
theorem prCells_one (L : List (Int × Int)) : ∀ u ∈ prCells L, u.oneCell' = true := by
  intro u hu
  obtain ⟨l, hl, hu⟩ := List.mem_flatten.1 hu
  obtain ⟨x, _, rfl⟩ := List.mem_map.1 hl
  simp only [prCells1, List.mem_cons, List.not_mem_nil, or_false] at hu
  rcases hu with rfl | rfl <;> rfl
/-- A pair that is read: its cells. -/
theorem reads_pair {w : World} {b off n : Nat} {L : List (Int × Int)} (h : Reads w 2 (some ⟨b, off, none⟩) n (prCells L)) {i : Nat} {x : Int × Int} (hx : L[i]? = some x) :
    w.cell? ⟨b, off + i * 2, none⟩ = some (.int .i64 x.1) ∧ w.cell? ⟨b, off + i * 2 + 1, none⟩ = some (.int .i64 x.2) := by
  have hi := (List.getElem?_eq_some_iff.1 hx).1
  have hl := prCells_len L
  have hn : 0 < n := by have := h.1; omega
  obtain ⟨b', off', he, hc⟩ := h.2 hn
  cases he
  obtain ⟨h1, h2⟩ := prCells_at L i x hx
  exact ⟨by rw [hc _ (by omega)]; exact h1, by rw [Nat.add_assoc, hc _ (by omega)]; exact h2⟩
theorem reads_len {w : World} {ao : Option Addr} {n : Nat} {L : List (Int × Int)} (h : Reads w 2 ao n (prCells L)) : L.length = n := by
  have h1 := h.1; rw [prCells_len] at h1; omega

/-- An integer of 64 bits. -/
def i64w (n : Int) : Prop := -9223372036854775808 ≤ n ∧ n ≤ 9223372036854775807
theorem i64w_of {n : Int} (h : (Lit.int .i64 n).wf = true) : i64w n := by
  simp [Lit.wf, IntKind.min, IntKind.max, IntKind.signed, IntKind.bits] at h
  unfold i64w; omega
end Go.Gim
namespace Go.Proofs.Ytmecdhbiinpepaa
open Go.ChangeShapes Go.WideShapes Go.ChangeAt Go.RowKit Go.Gim

/-- A slice of structs of two integers that came in. -/
theorem open_pairs {H : Type} {enc : TypeId × Value → H} {P : Program} {W : World} {b0 : Nat} {t e : TypeId} {f0 f1 : Field} {v : Value} {d : DataW H} {ps : List MemPlace} (ht : P.underlying t = some (.slice e)) (he : P.underlying e = some (.struct #[f0, f1])) (hone : Go.Deep.oneCellFields P #[f0, f1] = true) (hc : P.cellsOf e = 2)
    (u0 : P.underlying f0.type = some (.int .i64)) (u1 : P.underlying f1.type = some (.int .i64))
    (hval : Value.okWide P W .any b0 t v) (hd : DataW.Trod enc P W 0 (fun _ => true) true t v d ps) :
    ∃ (ao : Option Addr) (cap : Nat) (L : List (Int × Int)), v = .slice ao L.length cap ∧ Reads W 2 ao L.length (prCells L) ∧ L.length ≤ maxLen ∧ ∀ x ∈ L, i64w x.1 ∧ i64w x.2 := by
  obtain ⟨ao, cap, els, rfl, hr, hm, hel⟩ := open_slice_reads (enc := enc) 2 ht hc (by omega) hval hd
  obtain ⟨L, rfl, hq⟩ := list_choose prCells1 (fun x => i64w x.1 ∧ i64w x.2) els (fun el h => by
    obtain ⟨hl, n, x, hx⟩ := hel el h
    obtain ⟨y0, y1, m, _, _, g0, g1⟩ := trod_struct2 he hx
    obtain ⟨c0, c1, hcs⟩ := Go.Joins.array2 (cs := el.toArray) (by simpa using hl)
    have hcs : el = [c0, c1] := by simpa using congrArg Array.toList hcs
    subst hcs
    obtain ⟨o0, k0⟩ := Go.Deep.hone_of hone 0 f0 rfl
    obtain ⟨o1, k1⟩ := Go.Deep.hone_of hone 1 f1 rfl
    rw [o0, k0] at g0
    rw [o1, k1] at g1
    obtain ⟨a0, e0, _, l0⟩ := DataW.trod_int u0 g0
    obtain ⟨a1, e1, _, l1⟩ := DataW.trod_int u1 g1
    simp at e0 e1
    subst e0 e1
    exact ⟨⟨a0, a1⟩, rfl, i64w_of l0, i64w_of l1⟩)
  rw [show (L.map prCells1).flatten = prCells L from rfl, List.length_map] at hr
  rw [List.length_map] at hm ⊢
  exact ⟨ao, cap, L, rfl, hr, hm, hq⟩

/-- A slice of arrays of two integers that came in. -/
theorem open_twos {H : Type} {enc : TypeId × Value → H} {P : Program} {W : World} {b0 : Nat} {t e i : TypeId} {v : Value} {d : DataW H} {ps : List MemPlace} (ht : P.underlying t = some (.slice e)) (he : P.underlying e = some (.array 2 i)) (hc : P.cellsOf e = 2)
    (hi : P.underlying i = some (.int .i64)) (hci : P.cellsOf i = 1)
    (hval : Value.okWide P W .any b0 t v) (hd : DataW.Trod enc P W 0 (fun _ => true) true t v d ps) :
    ∃ (ao : Option Addr) (cap : Nat) (L : List (Int × Int)), v = .slice ao L.length cap ∧ Reads W 2 ao L.length (prCells L) ∧ L.length ≤ maxLen ∧ ∀ x ∈ L, i64w x.1 ∧ i64w x.2 := by
  obtain ⟨ao, cap, els, rfl, hr, hm, hel⟩ := open_slice_reads (enc := enc) 2 ht hc (by omega) hval hd
  obtain ⟨L, rfl, hq⟩ := list_choose prCells1 (fun x => i64w x.1 ∧ i64w x.2) els (fun el h => by
    obtain ⟨hl, n, x, hx⟩ := hel el h
    obtain ⟨xs, m, _, _, _, hxl, g⟩ := DataW.trod_array he hx
    obtain ⟨c0, c1, hcs⟩ := Go.Joins.array2 (cs := el.toArray) (by simpa using hl)
    have hcs : el = [c0, c1] := by simpa using congrArg Array.toList hcs
    subst hcs
    match xs, hxl with
    | [y0, y1], _ =>
      have g0 := g 0 (by omega)
      have g1 := g 1 (by omega)
      rw [hci] at g0 g1
      simp at g0 g1
      obtain ⟨a0, e0, _, l0⟩ := DataW.trod_int hi g0
      obtain ⟨a1, e1, _, l1⟩ := DataW.trod_int hi g1
      simp at e0 e1
      subst e0 e1
      exact ⟨⟨a0, a1⟩, rfl, i64w_of l0, i64w_of l1⟩)
  rw [show (L.map prCells1).flatten = prCells L from rfl, List.length_map] at hr
  rw [List.length_map] at hm ⊢
  exact ⟨ao, cap, L, rfl, hr, hm, hq⟩

end Go.Proofs.Ytmecdhbiinpepaa

/- Sorting by insertion, plain: the exchange of neighbours downwards is the insertion into what is sorted; selections, in order and put together. Conditions: none. -/
namespace Go.Gim

section
variable {α : Type} (less : α → α → Bool)

/-- The element at place j goes down as long as it is less than the one ahead of it. -/
def sink (l : List α) : Nat → List α
  | 0 => l
  | j + 1 =>
    match l[j + 1]?, l[j]? with
    | some x, some y => if less x y then sink ((l.set (j + 1) y).set j x) j else l
    | _, _ => l
/-- The first k elements, one behind the other. -/
def isort (l : List α) : Nat → List α
  | 0 => l
  | k + 1 => sink less (isort l k) k
/-- The place of an element among the first k. -/
def place (x : α) (out : List α) : Nat → Nat
  | 0 => 0
  | k + 1 =>
    match out[k]? with
    | some y => if less x y then place x out k else k + 1
    | none => k + 1
def insR (out : List α) (x : α) : List α := out.take (place less x out out.length) ++ x :: out.drop (place less x out out.length)
/-- All inserted, one behind the other. -/
def sorted (l : List α) : List α := l.foldl (insR less) []

theorem sink_length (l : List α) (j : Nat) : (sink less l j).length = l.length := by
  induction j generalizing l with
  | zero => rfl
  | succ j ih =>
    unfold sink
    split
    · split
      · rw [ih]; simp
      · rfl
    · rfl
theorem isort_length (l : List α) (k : Nat) : (isort less l k).length = l.length := by
  induction k with
  | zero => rfl
  | succ k ih => unfold isort; rw [sink_length, ih]
theorem isort_one (l : List α) : isort less l 1 = l := rfl
theorem sink_yes {l : List α} {j : Nat} {x y : α} (h1 : l[j + 1]? = some x) (h2 : l[j]? = some y) (h : less x y = true) : sink less l (j + 1) = sink less ((l.set (j + 1) y).set j x) j := by
  rw [sink.eq_2, h1, h2]; simp only [h, if_true]
theorem sink_no {l : List α} {j : Nat} {x y : α} (h1 : l[j + 1]? = some x) (h2 : l[j]? = some y) (h : less x y = false) : sink less l (j + 1) = l := by
  rw [sink.eq_2, h1, h2]; simp only [h]; rfl

theorem place_le (x : α) (out : List α) (k : Nat) : place less x out k ≤ k := by
  induction k with
  | zero => exact Nat.le_refl _
  | succ k ih =>
    unfold place
    split
    · split <;> omega
    · exact Nat.le_refl _
theorem insR_length (out : List α) (x : α) : (insR less out x).length = out.length + 1 := by
  have := place_le less x out out.length
  unfold insR; simp; omega

theorem sink_at (x : α) (out rest : List α) (j : Nat) (hj : j ≤ out.length) :
    sink less (out.take j ++ x :: (out.drop j ++ rest)) j = out.take (place less x out j) ++ x :: (out.drop (place less x out j) ++ rest) := by
  induction j with
  | zero => rfl
  | succ j ih =>
    have hlt : j < out.length := by omega
    have e1 : (out.take (j + 1) ++ x :: (out.drop (j + 1) ++ rest))[j + 1]? = some x := by
      rw [List.getElem?_append_right (by simp; omega)]
      simp [Nat.min_eq_left hj]
    have e2 : (out.take (j + 1) ++ x :: (out.drop (j + 1) ++ rest))[j]? = some out[j] := by
      rw [List.getElem?_append_left (by simp; omega)]
      simp
    have e3 : ((out.take (j + 1) ++ x :: (out.drop (j + 1) ++ rest)).set (j + 1) out[j]).set j x = out.take j ++ x :: (out.drop j ++ rest) := by
      rw [List.take_succ_eq_append_getElem hlt, List.append_assoc, List.set_append_right _ _ (by simp; omega), List.set_append_right _ _ (by simp; omega)]
      have ed : out.drop j = out[j] :: out.drop (j + 1) := List.drop_eq_getElem_cons hlt
      simp [Nat.min_eq_left (Nat.le_of_lt hlt)]
      rw [ed]; rfl
    have ep : place less x out (j + 1) = if less x out[j] then place less x out j else j + 1 := by
      rw [place.eq_2, List.getElem?_eq_getElem hlt]
    rw [ep]
    cases hl : less x out[j] with
    | true => rw [sink_yes less e1 e2 hl, e3, ih (by omega)]; rfl
    | false => rw [sink_no less e1 e2 hl]; rfl

theorem isort_take (l : List α) (k : Nat) (hk : k ≤ l.length) : isort less l k = (l.take k).foldl (insR less) [] ++ l.drop k := by
  induction k with
  | zero => rfl
  | succ k ih =>
    have hlt : k < l.length := by omega
    have hlen : ∀ (m : Nat), m ≤ l.length → ((l.take m).foldl (insR less) []).length = m := by
      intro m
      induction m with
      | zero => intro _; rfl
      | succ m ihm =>
        intro hm
        rw [List.take_succ_eq_append_getElem (by omega), List.foldl_append, List.foldl_cons, List.foldl_nil, insR_length, ihm (by omega)]
    rw [isort, ih (by omega), List.drop_eq_getElem_cons hlt]
    have := sink_at less l[k] ((l.take k).foldl (insR less) []) (l.drop (k + 1)) k (by rw [hlen k (by omega)]; exact Nat.le_refl _)
    rw [List.take_of_length_le (by rw [hlen k (by omega)]; exact Nat.le_refl _), List.drop_of_length_le (by rw [hlen k (by omega)]; exact Nat.le_refl _), List.nil_append] at this
    rw [this, List.take_succ_eq_append_getElem hlt, List.foldl_append, List.foldl_cons, List.foldl_nil]
    have hk2 := hlen k (by omega)
    generalize (l.take k).foldl (insR less) [] = out at *
    unfold insR
    rw [hk2, List.append_assoc, List.cons_append]
theorem isort_all (l : List α) : isort less l l.length = sorted less l := by
  rw [isort_take less l _ (Nat.le_refl _), List.take_of_length_le (Nat.le_refl _), List.drop_of_length_le (Nat.le_refl _), List.append_nil]; rfl
theorem sorted_length (l : List α) : (sorted less l).length = l.length := by rw [← isort_all, isort_length]

theorem insR_perm (out : List α) (x : α) : ∀ a, a ∈ insR less out x ↔ a = x ∨ a ∈ out := by
  intro a
  have e : (a ∈ out) ↔ a ∈ out.take (place less x out out.length) ∨ a ∈ out.drop (place less x out out.length) := by
    rw [← List.mem_append, List.take_append_drop]
  unfold insR
  rw [List.mem_append, List.mem_cons, e]
  constructor
  · rintro (h | h | h)
    · exact .inr (.inl h)
    · exact .inl h
    · exact .inr (.inr h)
  · rintro (h | h | h)
    · exact .inr (.inl h)
    · exact .inl h
    · exact .inr (.inr h)
theorem sorted_snoc (l : List α) (x : α) : sorted less (l ++ [x]) = insR less (sorted less l) x := by
  unfold sorted; rw [List.foldl_append]; rfl
theorem sorted_mem (l : List α) : ∀ a, a ∈ sorted less l ↔ a ∈ l := by
  have : ∀ (l out : List α) a, a ∈ l.foldl (insR less) out ↔ a ∈ out ∨ a ∈ l := by
    intro l
    induction l with
    | nil => intro out a; simp
    | cons x r ih =>
      intro out a
      rw [List.foldl_cons, ih, insR_perm, List.mem_cons]
      constructor
      · rintro ((h | h) | h)
        · exact .inr (.inl h)
        · exact .inl h
        · exact .inr (.inr h)
      · rintro (h | h | h)
        · exact .inl (.inr h)
        · exact .inl (.inl h)
        · exact .inr h
  intro a
  rw [sorted, this]; simp
end

/-- A stretch: less by where it begins, then by where it ends. -/
def lessB (x y : Int × Int) : Bool := decide (x.1 < y.1 ∨ x.1 = y.1 ∧ x.2 < y.2)
/-- A selection's stretch. -/
def spanI (x : Int × Int) : Int × Int := (min x.1 x.2, max x.1 x.2)
def lessS (x y : Int × Int) : Bool := lessB (spanI x) (spanI y)
def touchB (x y : Int × Int) : Bool := decide (max x.1 y.1 ≤ min x.2 y.2)
/-- Two selections that touch, put together. -/
def fuse (a b : Int × Int) : Int × Int :=
  if a.2 < a.1 then (max (spanI a).2 (spanI b).2, (spanI a).1) else ((spanI a).1, max (spanI a).2 (spanI b).2)
def mergeS (out : List (Int × Int)) (s : Int × Int) : List (Int × Int) :=
  match out.getLast? with
  | some a => if touchB (spanI a) (spanI s) then out.dropLast ++ [fuse a s] else out ++ [s]
  | none => out ++ [s]
def merged (l : List (Int × Int)) : List (Int × Int) := l.foldl mergeS []
/-- Selections in order. -/
def orderN (l : List (Int × Int)) : List (Int × Int) := merged (sorted lessS l)

end Go.Gim

/- A region that draws its order, whose calls make memory and which makes boxes of its own: what has one value in whatever world (with new memory made between) is taken first; the boxes come last. Conditions: none. -/
namespace Go.Gim
open Go.RowKit

section
variable {P : Program} {md : Region.Mode} {ops : Array Oper} {Q : Exit → Act → World → Prop} {w0 : World}

/-- Whatever order is picked from here on, and whatever new memory is made between. -/
def wpE (P : Program) (md : Region.Mode) (ops : Array Oper) (Q : Exit → Act → World → Prop) (w0 : World) : Nat → Array Bool → Act → World → Prop
  | 0, listed, a, w => Region.ready md ops listed = [] ∧ ∀ w', Ext w w' → Q .normal a w'
  | fuel + 1, listed, a, w =>
    (Region.ready md ops listed = [] → ∀ w', Ext w w' → Q .normal a w') ∧
    ∀ i ∈ Region.ready md ops listed, ∀ w', Ext w w' → wpOp P ops Q i (fun a' w'' => Ext w0 w'' ∧ wpE P md ops Q w0 fuel (listed.setIfInBounds i true) a' w'') a w'

theorem wpAny_of_E : ∀ (fuel : Nat) (listed : Array Bool) (a : Act) (w : World), wpE P md ops Q w0 fuel listed a w → wpAny P md ops Q fuel listed a w
  | 0, _, _, w, h => ⟨h.1, h.2 w (Mod.refl _ w)⟩
  | f + 1, _, _, w, h => ⟨fun h0 => h.1 h0 w (Mod.refl _ w), fun i hi => wpOp_mono (fun a' w' h' => wpAny_of_E f _ a' w' h'.2) (h.2 i hi w (Mod.refl _ w))⟩
theorem wpE_ext : ∀ (fuel : Nat) (listed : Array Bool) (a : Act) (w w1 : World), Ext w w1 → wpE P md ops Q w0 fuel listed a w → wpE P md ops Q w0 fuel listed a w1
  | 0, _, _, _, _, hx, h => ⟨h.1, fun w' hw' => h.2 w' (hx.ext_trans hw')⟩
  | _ + 1, _, _, _, _, hx, h => ⟨fun h0 w' hw' => h.1 h0 w' (hx.ext_trans hw'), fun i hi w' hw' => h.2 i hi w' (hx.ext_trans hw')⟩

/-- What a run yields: just v, and new memory at most. -/
def QAt (P : Program) (w' : World) (v : Value) : Result Next → Prop
  | .ok (.value u) w'' => u = v ∧ Ext w' w''
  | .ok (.enter f args) w'' => w'' = w' ∧ Calls P f args w' (fun e w2 => e = .returned v ∧ Ext w' w2)
  | _ => False
/-- In whatever world that only has new memory, the operation yields v. -/
def QuietE (P : Program) (ops : Array Oper) (w0 : World) (o : Oper) (v : Value) (a : Act) : Prop :=
  Region.wanted o (yielded ops a.tmps) = true ∧ ∀ w', Ext w0 w' → QAt P w' v ((execOp a.eval o).run P w')

theorem QuietE.wpOp {i : Nat} {o : Oper} {v : Value} {a : Act} (hi : ops[i]? = some o) (hy : QuietE P ops w0 o v a) {K : Act → World → Prop} {w : World} (hw : Ext w0 w) (h : ∀ w2, Ext w w2 → K (a.put o.dst v) w2) : wpOp P ops Q i K a w := by
  unfold Go.wpOp
  simp only [hi, hy.1, if_true]
  refine .inl ?_
  unfold Oper.wp
  have h1 := hy.2 w hw
  generalize (execOp a.eval o).run P w = r at *
  cases r with
  | ok n w' =>
    cases n <;> simp only [QAt] at h1
    case value u => obtain ⟨rfl, hx⟩ := h1; simp only [Oper.upon]; exact h _ hx
    case enter f args =>
      obtain ⟨rfl, hc⟩ := h1
      simp only [Oper.upon]
      exact hc.mono fun e w2 ⟨he, hx⟩ => by rw [he]; exact h _ hx
  | halt x w' => simp only [QAt] at h1

theorem wpOp_putE {j : Nat} {oi oj : Oper} {v : Value} (hj : ops[j]? = some oj) (hap : oi.apart ops oj = true)
    (hsi : ∀ cs b, oi.op ≠ .select cs b) (hsj : ∀ cs b, oj.op ≠ .select cs b)
    (hQ : ∀ c a w, Q (.panic c) (a.put oi.dst v) w → Q (.panic c) a w) {K : Act → World → Prop} {a : Act} {w : World}
    (hy : QuietE P ops w0 oi v a) (h : wpOp P ops Q j K (a.put oi.dst v) w) :
    wpOp P ops Q j (fun a' w' => QuietE P ops w0 oi v a' ∧ K (a'.put oi.dst v) w') a w := by
  obtain ⟨h1, h2, h3⟩ := Oper.apart_spec hap
  have keep : ∀ (b : Act), QuietE P ops w0 oi v b → ∀ u, QuietE P ops w0 oi v (b.put oj.dst u) := fun b hb u => by
    unfold QuietE at *
    rw [execOp_put oi hsi b oj.dst u h3, wanted_put oi b oj.dst u h3]; exact hb
  have keepD : ∀ d, QuietE P ops w0 oi v { a with defers := d :: a.defers } := fun _ => hy
  unfold wpOp at *
  simp only [hj] at *
  rw [wanted_put oj a oi.dst v h1] at h
  by_cases hw : Region.wanted oj (yielded ops a.tmps) = true
  · rw [if_pos hw] at h ⊢
    rcases h with h | ⟨hasks, hlets⟩
    case inr => exact .inr ⟨by unfold Oper.asks at *; rw [execOp_put oj hsj a oi.dst v h1] at hasks; exact hasks, hlets⟩
    refine .inl ?_
    unfold Oper.wp at *
    rw [execOp_put oj hsj a oi.dst v h1] at h
    generalize (execOp a.eval oj).run P w = r at *
    cases r with
    | ok n w' =>
      cases n <;> simp only [Oper.upon] at h ⊢
      case value u => exact ⟨keep a hy u, by rw [← Act.put_comm a v u h2]; exact h⟩
      case skip => exact ⟨keep a hy _, by rw [← Act.put_comm a v undef h2]; exact h⟩
      case defer d => exact ⟨keep _ (keepD d) _, by rw [← Act.put_comm _ v undef h2, ← Act.put_defers]; exact h⟩
      case enter f args =>
        refine Calls.mono h fun e w'' he => ?_
        cases e with
        | returned u => exact ⟨keep a hy u, by rw [← Act.put_comm a v u h2]; exact he⟩
        | panicked c => exact hQ _ _ _ he
        | outgrown => exact he
      case row row args => exact Rows.mono h fun u w'' he => ⟨keep a hy u, by rw [← Act.put_comm a v u h2]; exact he⟩
    | halt x w' =>
      cases x <;> simp only [Oper.upon] at h ⊢
      case panic u => exact hQ _ _ _ h
  · rw [if_neg hw] at h ⊢
    exact ⟨keep a hy _, by rw [← Act.put_comm a v undef h2]; exact h⟩

theorem wpE_first {i : Nat} {oi : Oper} {v : Value} (hi : ops[i]? = some oi) (hsel : ∀ (j : Nat) (o : Oper) cs b, ops[j]? = some o → o.op ≠ .select cs b)
    (hQ : ∀ c a w, Q (.panic c) (a.put oi.dst v) w → Q (.panic c) a w) :
    ∀ (fuel : Nat) (listed : Array Bool) (a : Act) (w : World),
      (∀ j oj, ops[j]? = some oj → j ≠ i → listed.getD j true = false → (∀ e ∈ oj.after, Region.binds md e = true → e.on ≠ i) → oi.apart ops oj = true) →
      i ∈ Region.ready md ops listed → QuietE P ops w0 oi v a → Ext w0 w →
      wpE P md ops Q w0 fuel (listed.setIfInBounds i true) (a.put oi.dst v) w → wpE P md ops Q w0 (fuel + 1) listed a w := by
  intro fuel
  induction fuel with
  | zero =>
    intro listed a w _ hr hy hx H
    refine ⟨fun h => (by rw [h] at hr; cases hr), fun j hj w' hw' => ?_⟩
    by_cases hji : j = i
    · subst hji
      exact hy.wpOp hi (hx.ext_trans hw') fun w2 h2 => ⟨(hx.ext_trans hw').ext_trans h2, wpE_ext 0 _ _ _ _ (hw'.ext_trans h2) H⟩
    · have := ready_mono hj hji
      rw [H.1] at this
      cases this
  | succ fuel ih =>
    intro listed a w hfree hr hy hx H
    refine ⟨fun h => (by rw [h] at hr; cases hr), fun j hj w' hw' => ?_⟩
    by_cases hji : j = i
    · subst hji
      exact hy.wpOp hi (hx.ext_trans hw') fun w2 h2 => ⟨(hx.ext_trans hw').ext_trans h2, wpE_ext _ _ _ _ _ (hw'.ext_trans h2) H⟩
    · have h1 := H.2 j (ready_mono hj hji) w' hw'
      obtain ⟨hjun, oj, hoj, hall⟩ := mem_ready.1 hj
      have hnot : ∀ e ∈ oj.after, Region.binds md e = true → e.on ≠ i := fun e he hb heq => by
        have h1 := hall e he hb
        have h0 := (mem_ready.1 hr).1
        rw [heq] at h1
        rcases Nat.lt_or_ge i listed.size with h' | h'
        · simp [h'] at h0 h1; rw [h0] at h1; cases h1
        · simp [Array.getElem?_eq_none h'] at h1
      have h2 := wpOp_putE hoj (hfree j oj hoj hji hjun hnot) (fun cs b => hsel i oi cs b hi) (fun cs b => hsel j oj cs b hoj) hQ hy h1
      have hfree' : ∀ k ok, ops[k]? = some ok → k ≠ i → (listed.setIfInBounds j true).getD k true = false →
          (∀ e ∈ ok.after, Region.binds md e = true → e.on ≠ i) → oi.apart ops ok = true := fun k ok hk hki hun hno => by
        refine hfree k ok hk hki ?_ hno
        by_cases hjk : j = k
        · subst hjk; exact hjun
        · rw [getD_set_ne true hjk] at hun; exact hun
      refine wpOp_mono (fun a' w'' h3 => ⟨h3.2.1, ih (listed.setIfInBounds j true) a' w'' hfree' (ready_mono hr (Ne.symm hji)) h3.1 h3.2.1 ?_⟩) h2
      rw [Array.setIfInBounds_comm _ _ hji]
      exact h3.2.2

/-- Take number i first. -/
theorem wpE_take (i d : Nat) {oi : Oper} {v : Value} {fuel : Nat} {listed : Array Bool} {a : Act} {w : World} (hi : ops[i]? = some oi) (hd : oi.dst = some d)
    (hs : Region.noSelect ops = true) (hf : Region.free md ops listed i = true) (hr : (Region.ready md ops listed).contains i = true)
    (hQ : ∀ c a w, Q (.panic c) (a.put oi.dst v) w → Q (.panic c) a w) (hx : Ext w0 w) (hw : Region.wanted oi (yielded ops a.tmps) = true) (hy : ∀ w', Ext w0 w' → QAt P w' v ((execOp a.eval oi).run P w'))
    (h : wpE P md ops Q w0 fuel (listed.setIfInBounds i true) (a.put (some d) v) w) : wpE P md ops Q w0 (fuel + 1) listed a w :=
  wpE_first hi (Region.noSelect_spec hs) hQ fuel listed a w (Region.free_spec hi hf) (by simpa using hr) ⟨hw, hy⟩ hx (by rw [hd]; exact h)

/-- The beginning. -/
theorem wp_region_E {id : Nat} {a : Act} {w : World} (hm : P.follows .mixedOrders = true)
    (h : wpE P .any ops Q w ops.size (Array.replicate ops.size false) a { w with drawn := w.drawn + 1 }) : (Code.region id ops true).wp P Q a w :=
  wp_region_any hm (wpAny_of_E _ _ _ _ h)

theorem ext_draw (w : World) : Ext w { w with drawn := w.drawn + 1 } := ⟨rfl, rfl, rfl, Nat.le_refl _, fun _ _ _ => rfl⟩
theorem qat_value {w' : World} {v : Value} {r : Result Next} (h : r = .ok (.value v) w') : QAt P w' v r := by rw [h]; exact ⟨rfl, Mod.refl _ _⟩
theorem qat_enter {w' : World} {v : Value} {f : FuncId} {args : Array Value} {r : Result Next} (h : r = .ok (.enter f args) w') (hc : Calls P f args w' (fun e w2 => e = .returned v ∧ Ext w' w2)) : QAt P w' v r := by rw [h]; exact ⟨rfl, hc⟩
end
end Go.Gim

/- The end of a region that makes two boxes of two cells each: whichever comes first. Conditions: none. -/
namespace Go.Gim
open Go.RowKit

/-- Two pairs in two new blocks. -/
def TwoBoxes (wa wn : World) (p q : Nat) (T : TypeId) (x y : Value × Value) : Prop :=
  Ext wa wn ∧ wa.heap.size ≤ p ∧ wa.heap.size ≤ q ∧ p ≠ q ∧ Blk wn p T #[x.1, x.2] ∧ Blk wn q T #[y.1, y.2]

theorem Calls.same_ext {P : Program} {f : FuncId} {args : Array Value} {w : World} {v : Value} (h : Calls P f args w fun e w' => e = .returned v ∧ w' = w) : Calls P f args w fun e w' => e = .returned v ∧ Ext w w' :=
  h.mono fun _ _ ⟨he, hw⟩ => ⟨he, by rw [hw]; exact Mod.refl _ _⟩

/-- What making a box of two cells does; what a store into one does. -/
structure Box2 (P : Program) (T : TypeId) (z0 z1 : Value) : Prop where
  make : ∀ (ρ : Operand → Value) (o : Oper) (w : World), o.op = .alloc T → (execOp ρ o).run P w = .ok (.value (.pointer (some ⟨w.heap.size, 0, none⟩))) (w.alloc (.cells #[z0, z1] T))
  store : ∀ (ρ : Operand → Value) (o : Oper) (w : World) (d s : Operand) (p : Nat) (y0 y1 x0 x1 : Value), o.op = .store T d s → ρ d = .pointer (some ⟨p, 0, none⟩) → ρ s = .agg #[x0, x1] → x0.oneCell' = true → x1.oneCell' = true → Blk w p T #[y0, y1] →
    (execOp ρ o).run P w = .ok .skip ((w.setCell ⟨p, 0, none⟩ x0).setCell ⟨p, 1, none⟩ x1)

section
variable {P : Program} {md : Region.Mode} {ops : Array Oper} {Q : Exit → Act → World → Prop} {w0 : World}

theorem wpOp_run {i : Nat} {o : Oper} {K : Act → World → Prop} {a : Act} {w w' : World} {v : Value} (hi : ops[i]? = some o) (hg : o.guard = none) (hr : (execOp a.eval o).run P w = .ok (.value v) w') (h : K (a.put o.dst v) w') : wpOp P ops Q i K a w := by
  unfold wpOp
  have hw : Region.wanted o (yielded ops a.tmps) = true := by simp [Region.wanted, hg]
  simp only [hi, hw, if_true]
  refine .inl ?_
  unfold Oper.wp
  rw [hr]; exact h
theorem wpOp_skip {i : Nat} {o : Oper} {K : Act → World → Prop} {a : Act} {w w' : World} (hi : ops[i]? = some o) (hg : o.guard = none) (hr : (execOp a.eval o).run P w = .ok .skip w') (h : K (a.put o.dst undef) w') : wpOp P ops Q i K a w := by
  unfold wpOp
  have hw : Region.wanted o (yielded ops a.tmps) = true := by simp [Region.wanted, hg]
  simp only [hi, hw, if_true]
  refine .inl ?_
  unfold Oper.wp
  rw [hr]; exact h
theorem wpE_all {rs : List Nat} {fuel : Nat} {listed : Array Bool} {a : Act} {w : World} (hr : Region.ready md ops listed = rs) (hne : rs ≠ [])
    (h : ∀ i ∈ rs, ∀ w', Ext w w' → wpOp P ops Q i (fun a' w'' => Ext w0 w'' ∧ wpE P md ops Q w0 fuel (listed.setIfInBounds i true) a' w'') a w') : wpE P md ops Q w0 (fuel + 1) listed a w :=
  ⟨fun h0 => absurd (hr ▸ h0) hne, hr ▸ h⟩
theorem wpE_done {listed : Array Bool} {a : Act} {w : World} (hr : Region.ready md ops listed = []) (h : ∀ w', Ext w w' → Q .normal a w') : ∀ fuel, wpE P md ops Q w0 fuel listed a w
  | 0 => ⟨hr, h⟩
  | _ + 1 => ⟨fun _ => h, by rw [hr]; simp⟩

/-- One operation alone may come up, a call: whatever it hands back. -/
theorem wpE_call1 (i d : Nat) {o : Oper} {f : FuncId} {args : Array Value} {fuel : Nat} {listed : Array Bool} {a : Act} {w : World} (hi : ops[i]? = some o) (hd : o.dst = some d) (hg : o.guard = none) (hr : Region.ready md ops listed = [i])
    (hrun : ∀ w', (execOp a.eval o).run P w' = .ok (.enter f args) w')
    (hc : ∀ w', Ext w w' → Calls P f args w' (fun e w'' => ∃ v, e = .returned v ∧ Ext w0 w'' ∧ wpE P md ops Q w0 fuel (listed.setIfInBounds i true) (a.put (some d) v) w'')) : wpE P md ops Q w0 (fuel + 1) listed a w := by
  refine wpE_all hr (by simp) fun j hj w' hw' => ?_
  obtain rfl : j = i := by simpa using hj
  unfold wpOp
  have hw : Region.wanted o (yielded ops a.tmps) = true := by simp [Region.wanted, hg]
  simp only [hi, hw, if_true]
  refine .inl ?_
  unfold Oper.wp
  rw [hrun w']
  simp only [Oper.upon]
  refine (hc w' hw').mono ?_
  rintro e w'' ⟨v, rfl, h1, h2⟩
  rw [hd]
  exact ⟨h1, h2⟩
theorem eval_put_self {a : Act} {d : Nat} {v : Value} (h : d < a.tmps.size) : (a.put (some d) v).eval (.tmp d) = v := by
  simp [Act.eval, Act.put, Array.getD_eq_getD_getElem?, h]
theorem eval_put_other {a : Act} {d e : Nat} {v : Value} (h : d ≠ e) : (a.put (some d) v).eval (.tmp e) = a.eval (.tmp e) := by
  simp [Act.eval, Act.put, Array.getD_eq_getD_getElem?, Array.getElem?_setIfInBounds_ne h]
theorem size_put {a : Act} {d : Nat} {v : Value} : (a.put (some d) v).tmps.size = a.tmps.size := by simp [Act.put]

/-- Two boxes are left to be made, and two stores into them. -/
theorem wpE_boxes2 {T : TypeId} {z0 z1 : Value} (B : Box2 P T z0 z1) (i1 i2 i3 i4 d1 d2 s1 s2 : Nat) {o1 o2 o3 o4 : Oper} {listed : Array Bool} {a : Act} {w : World} {x y : Value × Value}
    (h1 : ops[i1]? = some o1) (h2 : ops[i2]? = some o2) (h3 : ops[i3]? = some o3) (h4 : ops[i4]? = some o4)
    (g : o1.guard = none ∧ o2.guard = none ∧ o3.guard = none ∧ o4.guard = none)
    (p1 : o1.op = .alloc T ∧ o1.dst = some d1) (p2 : o2.op = .alloc T ∧ o2.dst = some d2) (p3 : o3.op = .store T (.tmp d1) (.tmp s1) ∧ o3.dst = none) (p4 : o4.op = .store T (.tmp d2) (.tmp s2) ∧ o4.dst = none)
    (r0 : Region.ready md ops listed = [i1, i2]) (r1 : Region.ready md ops (listed.setIfInBounds i1 true) = [i2]) (r2 : Region.ready md ops (listed.setIfInBounds i2 true) = [i1])
    (r3 : Region.ready md ops ((listed.setIfInBounds i1 true).setIfInBounds i2 true) = [i3]) (r4 : Region.ready md ops (((listed.setIfInBounds i1 true).setIfInBounds i2 true).setIfInBounds i3 true) = [i4])
    (r5 : Region.ready md ops ((((listed.setIfInBounds i1 true).setIfInBounds i2 true).setIfInBounds i3 true).setIfInBounds i4 true) = [])
    (hn : i1 ≠ i2) (hd : d1 < a.tmps.size ∧ d2 < a.tmps.size ∧ d1 ≠ d2 ∧ d1 ≠ s1 ∧ d1 ≠ s2 ∧ d2 ≠ s1 ∧ d2 ≠ s2)
    (e1 : a.eval (.tmp s1) = .agg #[x.1, x.2]) (e2 : a.eval (.tmp s2) = .agg #[y.1, y.2]) (c : x.1.oneCell' = true ∧ x.2.oneCell' = true ∧ y.1.oneCell' = true ∧ y.2.oneCell' = true)
    (hx : Ext w0 w) (h : ∀ w' p q, TwoBoxes w0 w' p q T x y → Q .normal ((a.put (some d1) (.pointer (some ⟨p, 0, none⟩))).put (some d2) (.pointer (some ⟨q, 0, none⟩))) w') : wpE P md ops Q w0 4 listed a w := by
  obtain ⟨k1, k2, k3, k4, k5, k6, k7⟩ := hd
  -- the stores, from a world that holds both boxes
  have fin : ∀ (u : World) (p q : Nat), Ext w0 u → w0.heap.size ≤ p → w0.heap.size ≤ q → p ≠ q → Blk u p T #[z0, z1] → Blk u q T #[z0, z1] →
      wpE P md ops Q w0 2 ((listed.setIfInBounds i1 true).setIfInBounds i2 true) ((a.put (some d1) (.pointer (some ⟨p, 0, none⟩))).put (some d2) (.pointer (some ⟨q, 0, none⟩))) u := by
    intro u p q hu hp hq hpq hb1 hb2
    refine wpE_all r3 (by simp) fun i hi w' hw' => ?_
    obtain rfl : i = i3 := by simpa using hi
    have hb1' := hb1.mod hw' (fun f => f)
    have hb2' := hb2.mod hw' (fun f => f)
    have hu' := hu.ext_trans hw'
    refine wpOp_skip h3 g.2.2.1 (B.store _ o3 w' (.tmp d1) (.tmp s1) p z0 z1 x.1 x.2 p3.1 (by rw [eval_put_other (Ne.symm k3), eval_put_self k1]) (by rw [eval_put_other k6, eval_put_other k4, e1]) c.1 c.2.1 hb1') ?_
    have hs1 : Blk ((w'.setCell ⟨p, 0, none⟩ x.1).setCell ⟨p, 1, none⟩ x.2) p T #[x.1, x.2] := (hb1'.set 0 _).set 1 _
    have hs2 : Blk ((w'.setCell ⟨p, 0, none⟩ x.1).setCell ⟨p, 1, none⟩ x.2) q T #[z0, z1] := (hb2'.set_other (p := ⟨p, 0, none⟩) (Ne.symm hpq) _).set_other (p := ⟨p, 1, none⟩) (Ne.symm hpq) _
    have hu2 : Ext w0 ((w'.setCell ⟨p, 0, none⟩ x.1).setCell ⟨p, 1, none⟩ x.2) := (hu'.setCell (p := ⟨p, 0, none⟩) (fun hl => absurd hl (Nat.not_lt.2 hp)) _).setCell (p := ⟨p, 1, none⟩) (fun hl => absurd hl (Nat.not_lt.2 hp)) _
    rw [p3.2]
    refine ⟨hu2, wpE_all r4 (by simp) fun i hi w2 hw2 => ?_⟩
    obtain rfl : i = i4 := by simpa using hi
    have hs1' := hs1.mod hw2 (fun f => f)
    have hs2' := hs2.mod hw2 (fun f => f)
    have hu3 := hu2.ext_trans hw2
    refine wpOp_skip h4 g.2.2.2 (B.store _ o4 w2 (.tmp d2) (.tmp s2) q z0 z1 y.1 y.2 p4.1 (by show Act.eval (Act.put _ (some d2) _) _ = _; rw [eval_put_self (by rw [size_put]; exact k2)]) (by show Act.eval (Act.put (Act.put a (some d1) _) (some d2) _) _ = _; rw [eval_put_other k7, eval_put_other k5, e2]) c.2.2.1 c.2.2.2 hs2') ?_
    rw [p4.2]
    have ht1 : Blk ((w2.setCell ⟨q, 0, none⟩ y.1).setCell ⟨q, 1, none⟩ y.2) p T #[x.1, x.2] := (hs1'.set_other (p := ⟨q, 0, none⟩) hpq _).set_other (p := ⟨q, 1, none⟩) hpq _
    have ht2 : Blk ((w2.setCell ⟨q, 0, none⟩ y.1).setCell ⟨q, 1, none⟩ y.2) q T #[y.1, y.2] := (hs2'.set 0 _).set 1 _
    have hu4 : Ext w0 ((w2.setCell ⟨q, 0, none⟩ y.1).setCell ⟨q, 1, none⟩ y.2) := (hu3.setCell (p := ⟨q, 0, none⟩) (fun hl => absurd hl (Nat.not_lt.2 hq)) _).setCell (p := ⟨q, 1, none⟩) (fun hl => absurd hl (Nat.not_lt.2 hq)) _
    refine ⟨hu4, wpE_done r5 (fun w3 hw3 => h w3 p q ⟨hu4.ext_trans hw3, hp, hq, hpq, ht1.mod hw3 (fun f => f), ht2.mod hw3 (fun f => f)⟩) 0⟩
  refine wpE_all r0 (by simp) fun i hi w' hw' => ?_
  have hi' : i = i1 ∨ i = i2 := by simpa using hi
  have hx' := hx.ext_trans hw'
  rcases hi' with rfl | rfl
  · refine wpOp_run h1 g.1 (B.make _ o1 w' p1.1) ?_
    rw [p1.2]
    refine ⟨hx'.alloc _, wpE_all r1 (by simp) fun i hi w2 hw2 => ?_⟩
    obtain rfl : i = i2 := by simpa using hi
    have hb := (Blk.new w' T #[z0, z1]).mod hw2 (fun f => f)
    have hx2 := (hx'.alloc _).ext_trans hw2
    refine wpOp_run h2 g.2.1 (B.make _ o2 w2 p2.1) ?_
    rw [p2.2]
    have hlt := hb.lt
    exact ⟨hx2.alloc _, fin _ _ _ (hx2.alloc _) hx'.size hx2.size (by omega) (hb.alloc _) (Blk.new _ _ _)⟩
  · refine wpOp_run h2 g.2.1 (B.make _ o2 w' p2.1) ?_
    rw [p2.2]
    refine ⟨hx'.alloc _, wpE_all r2 (by simp) fun i hi w2 hw2 => ?_⟩
    obtain rfl : i = i1 := by simpa using hi
    have hb := (Blk.new w' T #[z0, z1]).mod hw2 (fun f => f)
    have hx2 := (hx'.alloc _).ext_trans hw2
    refine wpOp_run h1 g.1 (B.make _ o1 w2 p1.1) ?_
    rw [p1.2]
    have hlt := hb.lt
    have := fin _ w2.heap.size w'.heap.size (hx2.alloc _) hx2.size hx'.size (by omega) (Blk.new _ _ _) (hb.alloc _)
    rw [Act.put_comm _ _ _ (fun d hd => by cases hd; intro e; cases e; exact k3 rfl), Array.setIfInBounds_comm _ _ hn.symm]
    exact ⟨hx2.alloc _, this⟩
end
end Go.Gim

/- Rows of pairs that the call owns: read as a row, a pair stored. Conditions: none. -/
namespace Go.Gim
open Go Go.RowKit

theorem prCells_set (l : List (Int × Int)) : ∀ (k : Nat) (x : Int × Int), k < l.length → prCells (l.set k x) = ((prCells l).set (k * 2) (.int .i64 x.1)).set (k * 2 + 1) (.int .i64 x.2) := by
  induction l with
  | nil => intro k x h; simp at h
  | cons y r ih =>
    intro k x h
    cases k with
    | zero => rfl
    | succ k =>
      rw [List.set_cons_succ, prCells_cons, prCells_cons, ih k x (by simpa using h), show (k + 1) * 2 = k * 2 + 1 + 1 from by omega]
      simp
/-- What an own row of pairs holds, and where it is. -/
theorem owns_at {w : World} {B g c n : Nat} {T : TypeId} {l : List (Int × Int)} (h : w.ownsRow B T 2 (.slice (some ⟨g, 0, none⟩) n c) n (prCells l)) :
    ∃ cur : Array Value, Blk w g T cur ∧ B ≤ g ∧ n ≤ c ∧ c ≤ maxLen ∧ cur.size = c * 2 ∧ cur.toList.take (n * 2) = prCells l := by
  rcases h.2 with ⟨h1, _⟩ | ⟨g', c', cur, h1, h2, h3, h4, h5, h6, h7⟩
  · cases h1
  · cases h1; exact ⟨cur, h3, h2, h4, h5, h6, h7⟩
theorem owns_len {w : World} {B n : Nat} {T : TypeId} {v : Value} {l : List (Int × Int)} (h : w.ownsRow B T 2 v n (prCells l)) : l.length = n := by
  have h1 := h.1; rw [prCells_len] at h1; omega
theorem owns_cell {w : World} {B g c n : Nat} {T : TypeId} {l : List (Int × Int)} (h : w.ownsRow B T 2 (.slice (some ⟨g, 0, none⟩) n c) n (prCells l)) {k : Nat} {x : Int × Int} (hx : l[k]? = some x) :
    w.cell? ⟨g, k * 2, none⟩ = some (.int .i64 x.1) ∧ w.cell? ⟨g, k * 2 + 1, none⟩ = some (.int .i64 x.2) := by
  have h1 := reads_pair (Reads.own h) hx
  simpa using h1
theorem owns_free {w : World} {B g c n : Nat} {T : TypeId} {l : List (Int × Int)} (h : w.ownsRow B T 2 (.slice (some ⟨g, 0, none⟩) n c) n (prCells l)) (k : Nat) : w.frozen? ⟨g, k, none⟩ = false := by
  obtain ⟨cur, hb, _⟩ := owns_at h; exact hb.free k
theorem owns_set {w : World} {B g c n : Nat} {T : TypeId} {l : List (Int × Int)} (h : w.ownsRow B T 2 (.slice (some ⟨g, 0, none⟩) n c) n (prCells l)) (k : Nat) (hk : k < n) (x : Int × Int) :
    ((w.setCell ⟨g, k * 2, none⟩ (.int .i64 x.1)).setCell ⟨g, k * 2 + 1, none⟩ (.int .i64 x.2)).ownsRow B T 2 (.slice (some ⟨g, 0, none⟩) n c) n (prCells (l.set k x)) := by
  have hl := owns_len h
  obtain ⟨cur, hb, hB, h1, h2, h3, h4⟩ := owns_at h
  refine ⟨by rw [prCells_len, List.length_set, hl], .inr ⟨g, c, _, rfl, hB, (hb.set (k * 2) _).set (k * 2 + 1) _, h1, h2, by simp [h3], ?_⟩⟩
  rw [prCells_set l k x (by omega), ← h4]
  simp only [Array.toList_setIfInBounds, List.take_set]
theorem prCells_setA (l : List (Int × Int)) : ∀ (k : Nat) (x : Int × Int) (a : Int), l[k]? = some x → prCells (l.set k (a, x.2)) = (prCells l).set (k * 2) (.int .i64 a) := by
  induction l with
  | nil => intro k x a h; simp at h
  | cons y r ih =>
    intro k x a h
    cases k with
    | zero => simp at h; subst h; rfl
    | succ k =>
      rw [List.set_cons_succ, prCells_cons, prCells_cons, ih k x a (by simpa using h), show (k + 1) * 2 = k * 2 + 1 + 1 from by omega]
      simp
theorem prCells_setB (l : List (Int × Int)) : ∀ (k : Nat) (x : Int × Int) (b : Int), l[k]? = some x → prCells (l.set k (x.1, b)) = (prCells l).set (k * 2 + 1) (.int .i64 b) := by
  induction l with
  | nil => intro k x a h; simp at h
  | cons y r ih =>
    intro k x a h
    cases k with
    | zero => simp at h; subst h; rfl
    | succ k =>
      rw [List.set_cons_succ, prCells_cons, prCells_cons, ih k x a (by simpa using h), show (k + 1) * 2 = k * 2 + 1 + 1 from by omega]
      simp
theorem owns_setA {w : World} {B g c n : Nat} {T : TypeId} {l : List (Int × Int)} (h : w.ownsRow B T 2 (.slice (some ⟨g, 0, none⟩) n c) n (prCells l)) {k : Nat} {x : Int × Int} (hx : l[k]? = some x) (a : Int) :
    (w.setCell ⟨g, k * 2, none⟩ (.int .i64 a)).ownsRow B T 2 (.slice (some ⟨g, 0, none⟩) n c) n (prCells (l.set k (a, x.2))) := by
  have hl := owns_len h
  obtain ⟨cur, hb, hB, h1, h2, h3, h4⟩ := owns_at h
  refine ⟨by rw [prCells_len, List.length_set, hl], .inr ⟨g, c, _, rfl, hB, hb.set (k * 2) _, h1, h2, by simp [h3], ?_⟩⟩
  rw [prCells_setA l k x a hx, ← h4]
  simp only [Array.toList_setIfInBounds, List.take_set]
theorem owns_setB {w : World} {B g c n : Nat} {T : TypeId} {l : List (Int × Int)} (h : w.ownsRow B T 2 (.slice (some ⟨g, 0, none⟩) n c) n (prCells l)) {k : Nat} {x : Int × Int} (hx : l[k]? = some x) (b : Int) :
    (w.setCell ⟨g, k * 2 + 1, none⟩ (.int .i64 b)).ownsRow B T 2 (.slice (some ⟨g, 0, none⟩) n c) n (prCells (l.set k (x.1, b))) := by
  have hl := owns_len h
  obtain ⟨cur, hb, hB, h1, h2, h3, h4⟩ := owns_at h
  refine ⟨by rw [prCells_len, List.length_set, hl], .inr ⟨g, c, _, rfl, hB, hb.set (k * 2 + 1) _, h1, h2, by simp [h3], ?_⟩⟩
  rw [prCells_setB l k x b hx, ← h4]
  simp only [Array.toList_setIfInBounds, List.take_set]
theorem owns_block {w : World} {B g c n : Nat} {T : TypeId} {l : List (Int × Int)} (h : w.ownsRow B T 2 (.slice (some ⟨g, 0, none⟩) n c) n (prCells l)) : B ≤ g ∧ g < w.heap.size := by
  obtain ⟨cur, hb, hB, _⟩ := owns_at h; exact ⟨hB, hb.lt⟩
theorem owns_some {w : World} {B n : Nat} {T : TypeId} {v : Value} {l : List (Int × Int)} (h : w.ownsRow B T 2 v n (prCells l)) (h0 : 0 < n) : ∃ g c, v = .slice (some ⟨g, 0, none⟩) n c := by
  rcases h.2 with ⟨_, h1⟩ | ⟨g', c', cur, h1, _⟩
  · omega
  · exact ⟨g', c', h1⟩
theorem owns_nil {w : World} {B : Nat} {T : TypeId} {v : Value} {l : List (Int × Int)} (h : w.ownsRow B T 2 v 0 (prCells l)) : ∃ a c, v = .slice a 0 c := by
  rcases h.2 with ⟨h1, _⟩ | ⟨g', c', cur, h1, _⟩
  · exact ⟨_, _, h1⟩
  · exact ⟨_, _, h1⟩
end Go.Gim

/- The end of a region 's = append(append(append([]T{}, a...), x), b...)': whichever of its two literals is made first. Conditions: none. -/
namespace Go.Gim
open Go.RowKit

theorem run_call_append {P : Program} {w w' : World} {o : Oper} {ρ : Operand → Value} (s x : Operand) (t : TypeId) (ho : o.op = .call { callee := .builtin .append, args := #[s, x], argTypes := #[t, t] })
    {v v' u : Value} (hs : ρ s = v) (hx : ρ x = u) (hr : (Builtin.append_ #[t, t] o.type #[v, u]).run P w = .ok v' w') : (execOp ρ o).run P w = .ok (.value v') w' := by
  simp [execOp, ho, resolve, invoke, builtin, hs, hx, hr, Result.andThen]

/-- What the literals of no and of one element do. -/
structure Lits (P : Program) (t T : TypeId) (size : Nat) : Prop where
  mk0 : ∀ (ρ : Operand → Value) (o : Oper) (w : World), o.op = .buildSlice t 0 #[] → (execOp ρ o).run P w = .ok (.value (.slice (some ⟨w.heap.size, 0, none⟩) 0 0)) (w.alloc (.cells #[] T))
  mk1 : ∀ (ρ : Operand → Value) (o : Oper) (w : World) (x : Operand) (V : Value), o.op = .buildSlice t 1 #[(0, x)] → ρ x = V → V.cells.size = size → (∀ u ∈ V.cells.toList, u.oneCell' = true) → V = .agg V.cells →
    (execOp ρ o).run P w = .ok (.value (.slice (some ⟨w.heap.size, 0, none⟩) 1 1)) (w.alloc (.cells V.cells T))

section
variable {P : Program} {md : Region.Mode} {ops : Array Oper} {Q : Exit → Act → World → Prop} {w0 : World}

theorem put5 (a : Act) (d1 d2 : Nat) (v1 v2 : Value) (h : d1 ≠ d2) : (a.put (some d1) v1).put (some d2) v2 = (a.put (some d2) v2).put (some d1) v1 :=
  Act.put_comm a v1 v2 (fun d hd => by cases hd; intro e; cases e; exact h rfl)

structure Splice (ops : Array Oper) (t : TypeId) (iA iB iC iD iE iF dA dB dC dD dE dF s1 s2 x : Nat) (oA oB oC oD oE oF : Oper) : Prop where
  A : ops[iA]? = some oA
  B : ops[iB]? = some oB
  C : ops[iC]? = some oC
  D : ops[iD]? = some oD
  E : ops[iE]? = some oE
  F : ops[iF]? = some oF
  g : oA.guard = none ∧ oB.guard = none ∧ oC.guard = none ∧ oD.guard = none ∧ oE.guard = none ∧ oF.guard = none
  pA : oA.op = .buildSlice t 0 #[] ∧ oA.dst = some dA
  pB : oB.op = .call { callee := .builtin .append, args := #[.tmp dA, .tmp s1], argTypes := #[t, t] } ∧ oB.dst = some dB
  pC : oC.op = .buildSlice t 1 #[(0, .tmp x)] ∧ oC.dst = some dC
  pD : oD.op = .call { callee := .builtin .append, args := #[.tmp dB, .tmp dC], argTypes := #[t, t] } ∧ oD.dst = some dD
  pE : oE.op = .call { callee := .builtin .append, args := #[.tmp dD, .tmp s2], argTypes := #[t, t] } ∧ oE.dst = some dE
  pF : oF.op = .assign (.tmp dE) ∧ oF.dst = some dF
  ne : dA ≠ dB ∧ dA ≠ dC ∧ dB ≠ dC ∧ dA ≠ s1 ∧ dA ≠ s2 ∧ dA ≠ x ∧ dB ≠ s1 ∧ dB ≠ s2 ∧ dB ≠ x ∧ dC ≠ s1 ∧ dC ≠ s2 ∧ dC ≠ x ∧ dD ≠ s2
  ix : iA ≠ iC ∧ iB ≠ iC

structure SpliceReady (md : Region.Mode) (ops : Array Oper) (listed : Array Bool) (iA iB iC iD iE iF : Nat) : Prop where
  r0 : Region.ready md ops listed = [iA, iC]
  rA : Region.ready md ops (listed.setIfInBounds iA true) = [iB, iC]
  rC : Region.ready md ops (listed.setIfInBounds iC true) = [iA]
  rAB : Region.ready md ops ((listed.setIfInBounds iA true).setIfInBounds iB true) = [iC]
  rAC : Region.ready md ops ((listed.setIfInBounds iA true).setIfInBounds iC true) = [iB]
  r3 : Region.ready md ops (((listed.setIfInBounds iA true).setIfInBounds iB true).setIfInBounds iC true) = [iD]
  r4 : Region.ready md ops ((((listed.setIfInBounds iA true).setIfInBounds iB true).setIfInBounds iC true).setIfInBounds iD true) = [iE]
  r5 : Region.ready md ops (((((listed.setIfInBounds iA true).setIfInBounds iB true).setIfInBounds iC true).setIfInBounds iD true).setIfInBounds iE true) = [iF]
  r6 : Region.ready md ops ((((((listed.setIfInBounds iA true).setIfInBounds iB true).setIfInBounds iC true).setIfInBounds iD true).setIfInBounds iE true).setIfInBounds iF true) = []

theorem wpE_splice {t T : TypeId} {z : Value} {size bytes : Nat} (hL : Lits P t T size) (hinfo : (P.info? T).map (fun i => (i.zero, i.size, i.bytes)) = some (some z, size, bytes)) (htt : P.underlying t = some (.slice T)) (hzs : z.cells.size = size) (hsz : 0 < size)
    {iA iB iC iD iE iF dA dB dC dD dE dF s1 s2 x : Nat} {oA oB oC oD oE oF : Oper} (O : Splice ops t iA iB iC iD iE iF dA dB dC dD dE dF s1 s2 x oA oB oC oD oE oF)
    {listed : Array Bool} (R : SpliceReady md ops listed iA iB iC iD iE iF) {a : Act} {w : World} (hd : dA < a.tmps.size ∧ dB < a.tmps.size ∧ dC < a.tmps.size ∧ dD < a.tmps.size ∧ dE < a.tmps.size)
    {a1 a2 : Option Addr} {n1 n2 c1 c2 : Nat} {xs1 xs2 : List Value} {V : Value}
    (e1 : a.eval (.tmp s1) = .slice a1 n1 c1) (e2 : a.eval (.tmp s2) = .slice a2 n2 c2) (e3 : a.eval (.tmp x) = V) (r1 : Reads w0 size a1 n1 xs1) (r2 : Reads w0 size a2 n2 xs2) (o1 : ∀ u ∈ xs1, u.oneCell' = true) (o2 : ∀ u ∈ xs2, u.oneCell' = true)
    (hV : V.cells.size = size ∧ (∀ u ∈ V.cells.toList, u.oneCell' = true) ∧ V = .agg V.cells) (hsm : (n1 + n2 + 1) * bytes ≤ 140737488355328 ∧ n1 + n2 + 1 ≤ maxLen)
    (hx : Ext w0 w) (h : ∀ (w' : World) (vA vB vC vD v : Value), w'.ownsRow w0.heap.size T size v (n1 + 1 + n2) (xs1 ++ V.cells.toList ++ xs2) → Ext w0 w' →
      Q .normal ((((((a.put (some dA) vA).put (some dB) vB).put (some dC) vC).put (some dD) vD).put (some dE) v).put (some dF) v) w') : wpE P md ops Q w0 6 listed a w := by
  obtain ⟨k1, k2, k3, k4, k5⟩ := hd
  obtain ⟨q1, q2, q3, q4, q5, q6, q7, q8, q9, q10, q11, q12, q13⟩ := O.ne
  obtain ⟨gA, gB, gC, gD, gE, gF⟩ := O.g
  have m1 : n1 ≤ n1 + n2 + 1 := by omega
  have hb1 : (0 + n1) * bytes ≤ 140737488355328 := Nat.le_trans (Nat.mul_le_mul_right _ (by omega)) hsm.1
  have hb2 : (n1 + 1) * bytes ≤ 140737488355328 := Nat.le_trans (Nat.mul_le_mul_right _ (by omega)) hsm.1
  have hb3 : (n1 + 1 + n2) * bytes ≤ 140737488355328 := Nat.le_trans (Nat.mul_le_mul_right _ (by omega)) hsm.1
  -- behind the three: the row of the first part, the box of the one
  have fin : ∀ (u : World) (vA vB : Value) (p : Nat), Ext w0 u → u.ownsRow w0.heap.size T size vB n1 xs1 → vB.ownBlock ≠ some p → Blk u p T V.cells →
      wpE P md ops Q w0 3 (((listed.setIfInBounds iA true).setIfInBounds iB true).setIfInBounds iC true) (((a.put (some dA) vA).put (some dB) vB).put (some dC) (.slice (some ⟨p, 0, none⟩) 1 1)) u := by
    intro u vA vB p hu hB hne hp
    refine wpE_all R.r3 (by simp) fun i hi u1 hu1 => ?_
    obtain rfl : i = iD := by simpa using hi
    have hB1 := ownsRow_mod hB hu1 (fun _ _ f => f)
    have hp1 := hp.mod hu1 (fun f => f)
    have hux := hu.ext_trans hu1
    have hrd : Reads u1 size (some ⟨p, 0, none⟩) 1 V.cells.toList := by
      refine ⟨by simp [hV.1], fun _ => ⟨p, 0, rfl, fun j hj => ?_⟩⟩
      rw [Nat.zero_add, hp1.cell j]; simp
    obtain ⟨vD, u2, hrD, hD, hmD, _⟩ := run_append_reads (P := P) (w := u1) t oD.type w0.heap.size T z size bytes hinfo htt hzs hsz vB n1 xs1 hB1 (some ⟨p, 0, none⟩) 1 1 V.cells.toList hrd hV.2.1 (by omega) hb2 hux.size
    have huD : Ext w0 u2 := hux.over hmD (fun k hk => (hB1.lt k hk).1)
    refine wpOp_run O.D gD (run_call_append _ _ t O.pD.1 (v := vB) (u := .slice (some ⟨p, 0, none⟩) 1 1) ?_ ?_ hrD) ?_
    · rw [eval_put_other (Ne.symm q3), eval_put_self (by rw [size_put]; exact k2)]
    · rw [eval_put_self (by rw [size_put, size_put]; exact k3)]
    rw [O.pD.2]
    refine ⟨huD, wpE_all R.r4 (by simp) fun i hi u3 hu3 => ?_⟩
    obtain rfl : i = iE := by simpa using hi
    have hD3 := ownsRow_mod hD hu3 (fun _ _ f => f)
    have hu3x := huD.ext_trans hu3
    obtain ⟨vE, u4, hrE, hE, hmE, _⟩ := run_append_reads (P := P) (w := u3) t oE.type w0.heap.size T z size bytes hinfo htt hzs hsz vD (n1 + 1) (xs1 ++ V.cells.toList) hD3 a2 n2 c2 xs2 (r2.mod hu3x (fun _ _ f => f)) o2 (by omega) hb3 hu3x.size
    have huE : Ext w0 u4 := hu3x.over hmE (fun k hk => (hD3.lt k hk).1)
    refine wpOp_run O.E gE (run_call_append _ _ t O.pE.1 (v := vD) (u := .slice a2 n2 c2) ?_ ?_ hrE) ?_
    · rw [eval_put_self (by rw [size_put, size_put, size_put]; exact k4)]
    · rw [eval_put_other q13, eval_put_other q11, eval_put_other q8, eval_put_other q5, e2]
    rw [O.pE.2]
    refine ⟨huE, wpE_all R.r5 (by simp) fun i hi u5 hu5 => ?_⟩
    obtain rfl : i = iF := by simpa using hi
    refine wpOp_run O.F gF (v := vE) (w' := u5) ?_ ?_
    · rw [BigFrame.run_assign (P := P) (.tmp dE) O.pF.1, eval_put_self (by rw [size_put, size_put, size_put, size_put]; exact k5)]
    rw [O.pF.2]
    refine ⟨huE.ext_trans hu5, wpE_done R.r6 (fun u6 hu6 => ?_) 0⟩
    exact h u6 vA vB _ vD vE (ownsRow_mod hE (hu5.ext_trans hu6) (fun _ _ f => f)) ((huE.ext_trans hu5).ext_trans hu6)
  -- the first part appended, from a world that holds the literal of none
  have addB : ∀ (u : World) (p : Nat) (b : Act) (K : Act → World → Prop), Ext w0 u → u.ownsRow w0.heap.size T size (.slice (some ⟨p, 0, none⟩) 0 0) 0 [] → b.eval (.tmp dA) = .slice (some ⟨p, 0, none⟩) 0 0 → b.eval (.tmp s1) = .slice a1 n1 c1 →
      (∀ vB u', Ext w0 u' → u'.ownsRow w0.heap.size T size vB n1 xs1 → (∀ k, u.heap.size ≤ k ∨ k = p ∨ vB.ownBlock ≠ some k) → Mod (fun k => k = p) u u' → K (b.put (some dB) vB) u') → wpOp P ops Q iB K b u := by
    intro u p b K hu hA hd1 hd2 hK
    obtain ⟨vB, u1, hrB, hB, hmB, hbk⟩ := run_append_reads (P := P) (w := u) t oB.type w0.heap.size T z size bytes hinfo htt hzs hsz (.slice (some ⟨p, 0, none⟩) 0 0) 0 [] hA a1 n1 c1 xs1 (r1.mod hu (fun _ _ f => f)) o1 (by omega) hb1 hu.size
    refine wpOp_run O.B gB (run_call_append _ _ t O.pB.1 (v := .slice (some ⟨p, 0, none⟩) 0 0) (u := .slice a1 n1 c1) hd1 hd2 hrB) ?_
    rw [O.pB.2]
    refine hK vB u1 (hu.over hmB (fun k hk => (hA.lt k hk).1)) (by simpa using hB) (fun k => ?_) (hmB.mono fun k _ hk => by simpa [Value.ownBlock] using hk.symm)
    by_cases hk1 : u.heap.size ≤ k
    · exact .inl hk1
    · by_cases hk2 : k = p
      · exact .inr (.inl hk2)
      · refine .inr (.inr fun e => ?_)
        rcases hbk with hb | hb
        · rw [hb] at e
          exact hk2 (by simpa [Value.ownBlock] using e.symm)
        · exact hk1 (hb k e)
  have lit : ∀ u : World, Ext w0 u → (u.alloc (.cells #[] T)).ownsRow w0.heap.size T size (.slice (some ⟨u.heap.size, 0, none⟩) 0 0) 0 [] := fun u hu =>
    ownsRow_base (World.ownsRow_lit u #[] 0 (Nat.le_refl _) (Nat.zero_le _) (by simp)) hu.size
  refine wpE_all R.r0 (by simp) fun i hi u0 hu0 => ?_
  have hi' : i = iA ∨ i = iC := by simpa using hi
  have hx0 := hx.ext_trans hu0
  rcases hi' with rfl | rfl
  · refine wpOp_run O.A gA (hL.mk0 _ oA u0 O.pA.1) ?_
    rw [O.pA.2]
    refine ⟨hx0.alloc _, wpE_all R.rA (by simp) fun i hi u1 hu1 => ?_⟩
    have hi' : i = iB ∨ i = iC := by simpa using hi
    have hx1 := (hx0.alloc _).ext_trans hu1
    have hA1 := ownsRow_mod (lit u0 hx0) hu1 (fun _ _ f => f)
    have hAl : u0.heap.size < u1.heap.size := by have := hu1.size; simp at this; omega
    rcases hi' with rfl | rfl
    · refine addB u1 u0.heap.size _ _ hx1 hA1 (eval_put_self k1) (by rw [eval_put_other q4, e1]) fun vB u2 hx2 hB2 hbk hmod => ⟨hx2, wpE_all R.rAB (by simp) fun i hi u3 hu3 => ?_⟩
      obtain rfl : i = iC := by simpa using hi
      have hx3 := hx2.ext_trans hu3
      have hB3 := ownsRow_mod hB2 hu3 (fun _ _ f => f)
      refine wpOp_run O.C gC (hL.mk1 _ oC u3 (.tmp x) V O.pC.1 (by rw [eval_put_other q9, eval_put_other q6, e3]) hV.1 hV.2.1 hV.2.2) ?_
      rw [O.pC.2]
      refine ⟨hx3.alloc _, fin _ _ vB u3.heap.size (hx3.alloc _) (hB3.alloc _) (fun e => ?_) (Blk.new _ _ _)⟩
      exact Nat.lt_irrefl _ (hB3.lt _ e).2
    · refine wpOp_run O.C gC (hL.mk1 _ oC u1 (.tmp x) V O.pC.1 (by rw [eval_put_other q6, e3]) hV.1 hV.2.1 hV.2.2) ?_
      rw [O.pC.2]
      refine ⟨hx1.alloc _, wpE_all R.rAC (by simp) fun i hi u2 hu2 => ?_⟩
      obtain rfl : i = iB := by simpa using hi
      have hx2 := (hx1.alloc _).ext_trans hu2
      have hb2' := (Blk.new u1 T V.cells).mod hu2 (fun f => f)
      refine addB u2 u0.heap.size _ _ hx2 (ownsRow_mod (hA1.alloc _) hu2 (fun _ _ f => f)) (by rw [eval_put_other (Ne.symm q2), eval_put_self k1]) (by rw [eval_put_other q10, eval_put_other q4, e1]) fun vB u3 hx3 hB3 hbk hmod => ⟨hx3, ?_⟩
      rw [put5 _ dC dB _ _ (Ne.symm q3), Array.setIfInBounds_comm _ _ (Ne.symm O.ix.2)]
      refine fin _ _ vB u1.heap.size hx3 hB3 ?_ (hb2'.mod hmod (fun e => by omega))
      rcases hbk u1.heap.size with h1 | h1 | h1
      · exact absurd hb2'.lt (by omega)
      · omega
      · exact h1
  · refine wpOp_run O.C gC (hL.mk1 _ oC u0 (.tmp x) V O.pC.1 e3 hV.1 hV.2.1 hV.2.2) ?_
    rw [O.pC.2]
    refine ⟨hx0.alloc _, wpE_all R.rC (by simp) fun i hi u1 hu1 => ?_⟩
    obtain rfl : i = iA := by simpa using hi
    have hx1 := (hx0.alloc _).ext_trans hu1
    have hC1 := (Blk.new u0 T V.cells).mod hu1 (fun f => f)
    refine wpOp_run O.A gA (hL.mk0 _ oA u1 O.pA.1) ?_
    rw [O.pA.2]
    refine ⟨hx1.alloc _, ?_⟩
    rw [Array.setIfInBounds_comm _ _ (Ne.symm O.ix.1)]
    refine wpE_all R.rAC (by simp) fun i hi u2 hu2 => ?_
    obtain rfl : i = iB := by simpa using hi
    have hx2 := (hx1.alloc _).ext_trans hu2
    have hC2 := (hC1.alloc (.cells #[] T)).mod hu2 (fun f => f)
    have hlt := hC1.lt
    refine addB u2 u1.heap.size _ _ hx2 (ownsRow_mod (lit u1 hx1) hu2 (fun _ _ f => f)) (eval_put_self (by rw [size_put]; exact k1)) (by rw [eval_put_other q4, eval_put_other q10, e1]) fun vB u3 hx3 hB3 hbk hmod => ⟨hx3, ?_⟩
    rw [put5 _ dC dA _ _ (Ne.symm q2), put5 _ dC dB _ _ (Ne.symm q3), Array.setIfInBounds_comm _ _ (Ne.symm O.ix.2)]
    refine fin _ _ vB u0.heap.size hx3 hB3 ?_ (hC2.mod hmod (fun e => by omega))
    rcases hbk u0.heap.size with h1 | h1 | h1
    · exact absurd hC2.lt (by omega)
    · omega
    · exact h1
end
end Go.Gim

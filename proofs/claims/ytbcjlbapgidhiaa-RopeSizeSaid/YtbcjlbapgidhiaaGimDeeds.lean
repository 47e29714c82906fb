/- The deeds that gimletlaw3's statements are given: how a row of them is read; what much answers of them. Conditions: at most 100 deeds. -/
import Derived.Test.YtbcjlbapgidhiaaGimLaw
import Derived.Test.YtbcjlbapgidhiaaGimDice
import Derived.Lib.SmallJoins
namespace Go.Gim
open Go Go.RowKit
/-- A deed: its kind, two places, a text. -/
structure Dd where
  k : Int
  a : Int
  b : Int
  s : ByteArray
def Dd.cells (x : Dd) : List Value := [.int .i64 x.k, .int .i64 x.a, .int .i64 x.b, .string x.s]
def ddCells (L : List Dd) : List Value := (L.map Dd.cells).flatten
theorem ddCells_cons (x : Dd) (r : List Dd) : ddCells (x :: r) = .int .i64 x.k :: .int .i64 x.a :: .int .i64 x.b :: .string x.s :: ddCells r := rfl
theorem ddCells_len (L : List Dd) : (ddCells L).length = L.length * 4 := by
  induction L with
  | nil => rfl
  | cons x r ih => rw [ddCells_cons]; simp only [List.length_cons, ih]; omega
theorem ddCells_at (L : List Dd) : ∀ (i : Nat) (x : Dd), L[i]? = some x → (ddCells L)[i * 4]? = some (.int .i64 x.k) ∧ (ddCells L)[i * 4 + 1]? = some (.int .i64 x.a) ∧ (ddCells L)[i * 4 + 2]? = some (.int .i64 x.b) ∧ (ddCells L)[i * 4 + 3]? = some (.string x.s) := by
  induction L with
  | nil => intro i x h; simp at h
  | cons y r ih =>
    intro i x h
    cases i with
    | zero => simp at h; subst h; exact ⟨rfl, rfl, rfl, rfl⟩
    | succ i =>
      have := ih i x (by simpa using h)
      rw [ddCells_cons, show (i + 1) * 4 = i * 4 + 1 + 1 + 1 + 1 from by omega]
      exact this
/-- A deed that is read: its cells. -/
theorem reads_deed {w : World} {b off n : Nat} {L : List Dd} (h : Reads w 4 (some ⟨b, off, none⟩) n (ddCells L)) {i : Nat} {x : Dd} (hx : L[i]? = some x) :
    w.cell? ⟨b, off + i * 4, none⟩ = some (.int .i64 x.k) ∧ w.cell? ⟨b, off + i * 4 + 1, none⟩ = some (.int .i64 x.a) ∧ w.cell? ⟨b, off + i * 4 + 2, none⟩ = some (.int .i64 x.b) ∧ w.cell? ⟨b, off + i * 4 + 3, none⟩ = some (.string x.s) := by
  have hi := (List.getElem?_eq_some_iff.1 hx).1
  have hl := ddCells_len L
  have hn : 0 < n := by have := h.1; omega
  obtain ⟨b', off', he, hc⟩ := h.2 hn
  cases he
  obtain ⟨h1, h2, h3, h4⟩ := ddCells_at L i x hx
  exact ⟨by rw [hc _ (by omega)]; exact h1, by rw [Nat.add_assoc, hc _ (by omega)]; exact h2, by rw [Nat.add_assoc, hc _ (by omega)]; exact h3, by rw [Nat.add_assoc, hc _ (by omega)]; exact h4⟩
/-- Have deeds' texts more than n bytes together? -/
def muchS (n : Int) : List Dd → Bool
  | [] => false
  | x :: r => if n < x.s.size then true else muchS (n - x.s.size) r
def muchB (many n : Int) (L : List Dd) : Bool := if many < L.length then true else muchS n L
/-- How many bytes deeds have together. -/
def sumS : List Dd → Nat
  | [] => 0
  | x :: r => x.s.size + sumS r
theorem muchS_no : ∀ (l : List Dd) (n : Int), muchS n l = false → 0 ≤ n → (sumS l : Int) ≤ n
  | [], n, _, h0 => by simpa [sumS] using h0
  | x :: r, n, h, h0 => by
    simp only [muchS] at h
    split at h
    · cases h
    · have := muchS_no r _ h (by omega)
      simp only [sumS]; omega
theorem sumS_append : ∀ (a b : List Dd), sumS (a ++ b) = sumS a + sumS b
  | [], b => by simp [sumS]
  | x :: r, b => by simp only [List.cons_append, sumS, sumS_append r b]; omega
theorem sumS_take_le (l : List Dd) (k : Nat) : sumS (l.take k) ≤ sumS l := by
  have := sumS_append (l.take k) (l.drop k)
  rw [List.take_append_drop] at this; omega
theorem sumS_step {l : List Dd} {k : Nat} {x : Dd} (h : l[k]? = some x) : sumS (l.take (k + 1)) = sumS (l.take k) + x.s.size := by
  obtain ⟨hk, rfl⟩ := List.getElem?_eq_some_iff.1 h
  rw [List.take_succ_eq_append_getElem hk, sumS_append]; simp [sumS]
end Go.Gim
namespace Go.Proofs.Ytbcjlbapgidhiaa
open Go.ChangeShapes Go.WideShapes Go.ChangeAt Go.RowKit Go.Gim

/-- A slice of deeds that came in. -/
theorem open_deeds {H : Type} {enc : TypeId × Value → H} {P : Program} {W : World} {b0 : Nat} {t e : TypeId} {f0 f1 f2 f3 : Field} {v : Value} {d : DataW H} {ps : List MemPlace} (ht : P.underlying t = some (.slice e)) (he : P.underlying e = some (.struct #[f0, f1, f2, f3])) (hone : Go.Deep.oneCellFields P #[f0, f1, f2, f3] = true) (hc : P.cellsOf e = 4)
    (u0 : P.underlying f0.type = some (.int .i64)) (u1 : P.underlying f1.type = some (.int .i64)) (u2 : P.underlying f2.type = some (.int .i64)) (u3 : P.underlying f3.type = some .string)
    (hval : Value.okWide P W .any b0 t v) (hd : DataW.Trod enc P W 0 (fun _ => true) true t v d ps) :
    ∃ (ao : Option Addr) (cap : Nat) (L : List Dd), v = .slice ao L.length cap ∧ Reads W 4 ao L.length (ddCells L) ∧ L.length ≤ maxLen ∧ ∀ x ∈ L, x.s.size ≤ maxLen := by
  obtain ⟨ao, cap, els, rfl, hr, hm, hel⟩ := open_slice_reads (enc := enc) 4 ht hc (by omega) hval hd
  obtain ⟨L, rfl, hq⟩ := list_choose Dd.cells (fun x => x.s.size ≤ maxLen) els (fun el h => by
    obtain ⟨hl, n, x, hx⟩ := hel el h
    obtain ⟨y0, y1, y2, y3, m, _, _, g0, g1, g2, g3⟩ := Go.Joins.trod_struct4 he hx
    obtain ⟨c0, c1, c2, c3, hcs⟩ := Go.Joins.array4 (cs := el.toArray) (by simpa using hl)
    have hcs : el = [c0, c1, c2, c3] := by simpa using congrArg Array.toList hcs
    subst hcs
    obtain ⟨o0, k0⟩ := Go.Deep.hone_of hone 0 f0 rfl
    obtain ⟨o1, k1⟩ := Go.Deep.hone_of hone 1 f1 rfl
    obtain ⟨o2, k2⟩ := Go.Deep.hone_of hone 2 f2 rfl
    obtain ⟨o3, k3⟩ := Go.Deep.hone_of hone 3 f3 rfl
    rw [o0, k0] at g0
    rw [o1, k1] at g1
    rw [o2, k2] at g2
    rw [o3, k3] at g3
    obtain ⟨a0, e0, _, _⟩ := DataW.trod_int u0 g0
    obtain ⟨a1, e1, _, _⟩ := DataW.trod_int u1 g1
    obtain ⟨a2, e2, _, _⟩ := DataW.trod_int u2 g2
    obtain ⟨a3, e3, _, l3⟩ := DataW.trod_string u3 g3
    simp at e0 e1 e2 e3
    subst e0 e1 e2 e3
    exact ⟨⟨a0, a1, a2, a3⟩, rfl, l3⟩)
  rw [show (L.map Dd.cells).flatten = ddCells L from rfl, List.length_map] at hr
  rw [List.length_map] at hm ⊢
  exact ⟨ao, cap, L, rfl, hr, hm, hq⟩

set_option maxHeartbeats 1600000 in
set_option maxRecDepth 1000000 in
theorem much_in (many n : Int) (b off cap : Nat) (L : List Dd) (w : World) (hr : Reads w 4 (some ⟨b, off, none⟩) L.length (ddCells L)) (hm : (L.length : Int) ≤ many) (hn : L.length ≤ 100) (h0 : 0 ≤ n) (h1 : n ≤ 1000000) :
    Calls Try.prog 39 #[.int .i64 many, .int .i64 n, .slice (some ⟨b, off, none⟩) L.length cap] w fun e w' => e = .returned (.bool (muchS n L)) ∧ w' = w := by
  have hm' : ¬ many < (L.length : Int) := by omega
  generalize hX : muchS n L = X
  have HX := Lib.hid hX
  have Hr := Lib.hid hr
  clear hX hr hm
  go_enter Try.func39, Try.ntmps39
  go_wp2_with fail
  go_loop [1, 7] (fun s1 s2 => ∃ (k : Nat) (m : Int), k ≤ L.length ∧ 0 ≤ m ∧ m ≤ 1000000 ∧ s2 = .int .i64 k ∧ s1 = .int .i64 m ∧ Hid (muchS m (L.drop k) = X)) (fun _ s2 => L.length - (intOf s2).toNat)
  case atStart => exact ⟨0, n, by omega, h0, h1, rfl, rfl, HX⟩
  case round =>
    obtain ⟨k, m, hk, m0, m1, rfl, rfl, HM⟩ := hrel
    by_cases hlt : k < L.length
    · have hlt' : (k : Int) < (L.length : Int) := by omega
      have hk0 : (0 : Int) ≤ (k : Int) := by omega
      obtain ⟨_, _, _, hc⟩ := reads_deed Hr.out (List.getElem?_eq_getElem hlt)
      have hd := List.drop_eq_getElem_cons hlt
      have hM := HM.out
      rw [hd] at hM
      generalize L[k] = y at *
      simp only [muchS] at hM
      generalize y.s = x at *
      by_cases hx : m < (x.size : Int)
      · rw [if_pos hx] at hM
        have hM2 := Lib.hid hM
        clear hM hd
        go_wp2_with fail
        go_ret
        exact ⟨ret_bool hM2.out, rfl⟩
      · rw [if_neg hx] at hM
        have hx' : decide (m < (x.size : Int)) = false := by simpa using hx
        have hM2 := Lib.hid hM
        clear hM hd
        go_wp2_with fail
        go_round
        case rel => exact ⟨k + 1, m - x.size, by omega, by omega, by omega, by go_num, rfl, hM2⟩
        case measure => simp [intOf]; omega
    · have hlt' : ¬ (k : Int) < (L.length : Int) := by omega
      have hM := HM.out
      rw [List.drop_of_length_le (by omega)] at hM
      have HM2 := Lib.hid hM
      clear hM
      go_wp2_with fail
      go_ret
      exact ⟨ret_bool HM2.out, rfl⟩
set_option maxHeartbeats 800000 in
set_option maxRecDepth 1000000 in
theorem much_empty (many n : Int) (ao : Option Addr) (cap : Nat) (w : World) (hm : 0 ≤ many) :
    Calls Try.prog 39 #[.int .i64 many, .int .i64 n, .slice ao 0 cap] w fun e w' => e = .returned (.bool false) ∧ w' = w := by
  have hm' : ¬ many < 0 := by omega
  go_enter Try.func39, Try.ntmps39
  go_wp2_with fail
  refine wp_loop_rounds 1 ?_
  rw [rounds_succ]
  go_wp2_with fail
  go_ret
  exact ⟨rfl, rfl⟩
set_option maxHeartbeats 800000 in
set_option maxRecDepth 1000000 in
theorem much_many (many n : Int) (ao : Option Addr) (cap len : Nat) (w : World) (hm : many < (len : Int)) :
    Calls Try.prog 39 #[.int .i64 many, .int .i64 n, .slice ao len cap] w fun e w' => e = .returned (.bool true) ∧ w' = w := by
  go_enter Try.func39, Try.ntmps39
  go_wp2_with fail
  go_ret
  exact ⟨rfl, rfl⟩
theorem much_any (many n : Int) (ao : Option Addr) (cap : Nat) (L : List Dd) (w : World) (hr : Reads w 4 ao L.length (ddCells L)) (hm0 : 0 ≤ many) (hm : many ≤ 100) (h0 : 0 ≤ n) (h1 : n ≤ 1000000) :
    Calls Try.prog 39 #[.int .i64 many, .int .i64 n, .slice ao L.length cap] w fun e w' => e = .returned (.bool (muchB many n L)) ∧ w' = w := by
  unfold muchB
  by_cases hx : many < L.length
  · rw [if_pos hx]; exact much_many many n ao cap L.length w hx
  · rw [if_neg hx]
    by_cases hp : 0 < L.length
    · obtain ⟨b, off, rfl⟩ := hr.some hp
      exact much_in many n b off cap L w hr (by omega) (by omega) h0 h1
    · obtain rfl : L = [] := List.length_eq_zero_iff.1 (by omega)
      exact much_empty many n ao cap w hm0
theorem muchB_no {many n : Int} {L : List Dd} (h : muchB many n L = false) (h0 : 0 ≤ n) : (L.length : Int) ≤ many ∧ (sumS L : Int) ≤ n := by
  unfold muchB at h
  split at h
  · cases h
  · exact ⟨by omega, muchS_no _ _ h h0⟩

end Go.Proofs.Ytbcjlbapgidhiaa

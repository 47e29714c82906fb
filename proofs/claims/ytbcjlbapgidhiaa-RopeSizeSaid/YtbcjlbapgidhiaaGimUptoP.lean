/- The most bytes of a beginning that have at most n by a way: plain facts. Conditions: none. -/
import Derived.Test.YtbcjlbapgidhiaaGimTreeP
namespace Go.Gim

/-- How many by a way. -/
def byW (way : Int) (l : List UInt8) : Nat := if way = 0 then byt l else if way = 1 then run l else if way = 2 then unt l else if way = 3 then brk l else 0
theorem byW_append (way : Int) (a b : List UInt8) : byW way (a ++ b) = byW way a + byW way b := by
  unfold byW; repeat' split
  · exact byt_append a b
  · exact run_append a b
  · exact unt_append a b
  · exact brk_append a b
  · rfl
theorem byW_nil (way : Int) : byW way [] = 0 := by
  unfold byW; repeat' split
  all_goals rfl
theorem byW_le (way : Int) (a : List UInt8) : byW way a ≤ 2 * a.length := by
  have h1 := brk_le a
  have h2 := run_le a
  have h3 := unt_le a
  unfold byW byt; repeat' split
  all_goals omega
theorem byW_cons (way : Int) (c : UInt8) (r : List UInt8) : byW way (c :: r) = byW way [c] + byW way r := byW_append way [c] r

/-- The most bytes of the beginning that have at most n by a way. -/
def upto (way : Int) : List UInt8 → Nat → Nat
  | [], _ => 0
  | c :: r, n => if n < byW way [c] then 0 else 1 + upto way r (n - byW way [c])

theorem upto_le (way : Int) (l : List UInt8) : ∀ n, upto way l n ≤ l.length := by
  induction l with
  | nil => intro n; simp [upto]
  | cons c r ih => intro n; simp only [upto]; split; · omega
                   · have := ih (n - byW way [c]); simp only [List.length_cons]; omega
theorem upto_append_lt (way : Int) (a b : List UInt8) : ∀ n, n < byW way a → upto way (a ++ b) n = upto way a n := by
  induction a with
  | nil => intro n h; rw [byW_nil] at h; omega
  | cons c r ih =>
    intro n h
    have e := byW_cons way c r
    rw [e] at h
    simp only [List.cons_append, upto]
    split
    · rfl
    · rw [ih _ (by omega)]
theorem upto_append_ge (way : Int) (a b : List UInt8) : ∀ n, byW way a ≤ n → upto way (a ++ b) n = a.length + upto way b (n - byW way a) := by
  induction a with
  | nil => intro n _; simp [byW_nil]
  | cons c r ih =>
    intro n h
    have e := byW_cons way c r
    rw [e] at h ⊢
    simp only [List.cons_append, upto]
    rw [if_neg (by omega), ih _ (by omega), List.length_cons, Nat.sub_sub]
    omega
theorem upto_all (way : Int) (a : List UInt8) (n : Nat) (h : byW way a ≤ n) : upto way a n = a.length := by
  have := upto_append_ge way a [] n h
  rw [List.append_nil] at this
  simpa [upto] using this
theorem upto_some (way : Int) (l : List UInt8) : ∀ n, byW way (l.take (upto way l n)) ≤ n := by
  induction l with
  | nil => intro n; simp [upto, byW_nil]
  | cons c r ih =>
    intro n
    simp only [upto]
    split
    · simp [byW_nil]
    · have e := byW_cons way c (r.take (upto way r (n - byW way [c])))
      rw [Nat.add_comm 1, List.take_succ_cons, e]
      have := ih (n - byW way [c])
      omega
end Go.Gim

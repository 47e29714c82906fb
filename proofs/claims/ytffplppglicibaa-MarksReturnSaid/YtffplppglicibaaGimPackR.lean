/- What turns edits back, plainly; edits that are apart by a byte at least, and what they leave in place. Conditions: none. -/
import Derived.Test.YtffplppglicibaaGimSinglyP
import Derived.Test.YtffplppglicibaaGimMoveE
import Derived.Test.YtffplppglicibaaGimRef6M
import Derived.Test.YtffplppglicibaaGimDoes7
namespace Go.Gim
def oldE (s : ByteArray) (e : Ed) : ByteArray := s.extract e.a.toNat e.b.toNat
def dE (e : Ed) : Int := (e.t.size : Int) - (e.b - e.a)
/-- How far Back has come: what it tells so far, how many bytes the text has grown, where the edit ahead ends. -/
structure Bk where
  out : List Ed
  g : Int
  e : Int
def newE (s : ByteArray) (g : Int) (x : Ed) : Ed := ⟨x.a + g, x.a + g + x.t.size, oldE s x⟩
def backOut (s : ByteArray) (st : Bk) (x : Ed) : List Ed :=
  match st.out.getLast? with
  | some y => if x.a = st.e then st.out.set (st.out.length - 1) ⟨y.a, y.b + x.t.size, y.t ++ oldE s x⟩ else st.out ++ [newE s st.g x]
  | none => st.out ++ [newE s st.g x]
def backStep (s : ByteArray) (st : Bk) (x : Ed) : Bk := ⟨backOut s st x, st.g + dE x, x.b⟩
def backT (s : ByteArray) (es : List Ed) : Bk := es.foldl (backStep s) ⟨[], 0, -1⟩
def backE (s : ByteArray) (es : List Ed) : List Ed := (backT s (sorted lessE es)).out
/-- The same where no edit begins at the end of the one ahead. -/
def backL (s : ByteArray) : Int → List Ed → List Ed
  | _, [] => []
  | g, e :: r => newE s g e :: backL s (g + dE e) r
theorem backT_asc (s : ByteArray) : ∀ (es : List Ed) (st : Bk), Asc es → (∀ e ∈ es, st.e < e.a) → (es.foldl (backStep s) st).out = st.out ++ backL s st.g es := by
  intro es
  induction es with
  | nil => intro st _ _; simp [backL]
  | cons x r ih =>
    intro st ha hl
    have h2 := List.pairwise_cons.1 ha.2
    rw [List.foldl_cons, ih (backStep s st x) ⟨fun e he => ha.1 e (List.mem_cons_of_mem _ he), h2.2⟩ (fun e he => h2.1 e he)]
    have ho : (backStep s st x).out = st.out ++ [newE s st.g x] := by
      show backOut s st x = _
      unfold backOut
      split
      · rw [if_neg (by have := hl x (List.mem_cons_self ..); omega)]
      · rfl
    rw [ho, List.append_assoc]
    rfl
theorem backE_asc {s : ByteArray} {es : List Ed} (h : Asc es) (h0 : ∀ e ∈ es, 0 ≤ e.a) : backE s es = backL s 0 es := by
  unfold backE backT
  rw [asc_sorted h, backT_asc s es _ h (fun e he => by have := h0 e he; show (-1 : Int) < e.a; omega)]
  rfl
theorem oldE_size {s : ByteArray} {e : Ed} (h0 : 0 ≤ e.a) (h1 : e.a ≤ e.b) (h2 : e.b ≤ s.size) : ((oldE s e).size : Int) = e.b - e.a := by
  unfold oldE
  rw [ByteArray.size_extract]
  omega
def foldE (right : Bool) (es : List Ed) (o : Int) : Int := es.foldr (fun e o => oneE right o e) o
theorem moveE_asc {right : Bool} {es : List Ed} (h : Asc es) (o : Int) : moveE right es o = foldE right es o := by
  unfold moveE foldE
  rw [asc_sorted h, List.foldl_reverse]
/-- No edit touches an offset. -/
def Far (es : List Ed) (o : Int) : Prop := ∀ e ∈ es, o < e.a ∨ e.b < o
theorem Asc.tail {x : Ed} {r : List Ed} (h : Asc (x :: r)) : Asc r ∧ x.a ≤ x.b ∧ ∀ e ∈ r, x.b < e.a :=
  ⟨⟨fun e he => h.1 e (List.mem_cons_of_mem _ he), (List.pairwise_cons.1 h.2).2⟩, h.1 x (List.mem_cons_self ..), (List.pairwise_cons.1 h.2).1⟩
theorem fold_stay {right : Bool} : ∀ (es : List Ed) (o : Int), (∀ e ∈ es, o < e.a) → foldE right es o = o := by
  intro es
  induction es with
  | nil => intro o _; rfl
  | cons x r ih =>
    intro o h
    show oneE right (foldE right r o) x = o
    rw [ih o (fun e he => h e (List.mem_cons_of_mem _ he))]
    unfold oneE
    rw [if_pos (h x (List.mem_cons_self ..))]
theorem fold_over {right : Bool} : ∀ (es : List Ed) (o c : Int), Asc es → Far es o → (∀ e ∈ es, c < e.a) → c < o → c < foldE right es o := by
  intro es
  induction es with
  | nil => intro o c _ _ _ h; exact h
  | cons x r ih =>
    intro o c ha hf hc h
    obtain ⟨h1, h2, h3⟩ := ha.tail
    have hcx := hc x (List.mem_cons_self ..)
    rcases hf x (List.mem_cons_self ..) with e | e
    · rw [fold_stay (x :: r) o (fun y hy => by
        rcases List.mem_cons.1 hy with rfl | hy
        · exact e
        · have := h3 y hy; omega)]
      exact h
    · have hR := ih o x.b h1 (fun y hy => hf y (List.mem_cons_of_mem _ hy)) h3 e
      show c < oneE right (foldE right r o) x
      unfold oneE
      rw [if_neg (by omega), if_pos hR]
      omega
theorem fold_step {right : Bool} {x : Ed} {r : List Ed} {o : Int} (ha : Asc (x :: r)) (hf : Far (x :: r) o) : (o < x.a ∧ foldE right (x :: r) o = o ∧ foldE right r o = o) ∨ (x.b < o ∧ foldE right (x :: r) o = foldE right r o + dE x ∧ x.b < foldE right r o) := by
  obtain ⟨h1, h2, h3⟩ := ha.tail
  rcases hf x (List.mem_cons_self ..) with e | e
  · refine .inl ⟨e, fold_stay _ o (fun y hy => ?_), fold_stay _ o (fun y hy => by have := h3 y hy; omega)⟩
    rcases List.mem_cons.1 hy with rfl | hy
    · exact e
    · have := h3 y hy; omega
  · have hR := fold_over (right := right) r o x.b h1 (fun y hy => hf y (List.mem_cons_of_mem _ hy)) h3 e
    refine .inr ⟨e, ?_, hR⟩
    show oneE right (foldE right r o) x = _
    unfold oneE dE
    rw [if_neg (by omega), if_pos hR]
theorem fold_mono {p q : Bool} : ∀ (es : List Ed) (o1 o2 : Int), Asc es → Far es o1 → Far es o2 → o1 ≤ o2 → foldE p es o1 ≤ foldE q es o2 := by
  intro es
  induction es with
  | nil => intro o1 o2 _ _ _ h; exact h
  | cons x r ih =>
    intro o1 o2 ha h1 h2 h
    have hR := ih o1 o2 ha.tail.1 (fun y hy => h1 y (List.mem_cons_of_mem _ hy)) (fun y hy => h2 y (List.mem_cons_of_mem _ hy)) h
    have hx := ha.tail.2.1
    rcases fold_step (right := p) ha h1 with ⟨a1, a2, a3⟩ | ⟨a1, a2, a3⟩
    · rcases fold_step (right := q) ha h2 with ⟨b1, b2, b3⟩ | ⟨b1, b2, b3⟩
      · omega
      · unfold dE at b2; omega
    · rcases fold_step (right := q) ha h2 with ⟨b1, b2, b3⟩ | ⟨b1, b2, b3⟩ <;> omega
theorem backL_low (s : ByteArray) : ∀ (es : List Ed) (g c : Int), Asc es → (∀ e ∈ es, c < e.a) → ∀ y ∈ backL s g es, c + g < y.a := by
  intro es
  induction es with
  | nil => intro g c _ _ y hy; cases hy
  | cons x r ih =>
    intro g c ha hc y hy
    obtain ⟨h1, h2, h3⟩ := ha.tail
    have hcx := hc x (List.mem_cons_self ..)
    rcases List.mem_cons.1 hy with rfl | hy
    · show c + g < x.a + g; omega
    · have := ih (g + dE x) x.b h1 h3 y hy
      unfold dE at this
      omega
theorem backL_asc (s : ByteArray) : ∀ (es : List Ed) (g : Int), Asc es → Asc (backL s g es) := by
  intro es
  induction es with
  | nil => intro g h; exact ⟨fun e he => by simp [backL] at he, List.Pairwise.nil⟩
  | cons x r ih =>
    intro g ha
    obtain ⟨h1, h2, h3⟩ := ha.tail
    obtain ⟨i1, i2⟩ := ih (g + dE x) h1
    refine ⟨fun e he => ?_, List.pairwise_cons.2 ⟨fun y hy => ?_, i2⟩⟩
    · rcases List.mem_cons.1 he with rfl | he
      · show x.a + g ≤ x.a + g + x.t.size; omega
      · exact i1 e he
    · have := backL_low s r (g + dE x) x.b h1 h3 y hy
      unfold dE at this
      show x.a + g + x.t.size < y.a
      omega
theorem fold_back {p q : Bool} (s : ByteArray) : ∀ (es : List Ed) (g o : Int), Asc es → Far es o → (∀ e ∈ es, 0 ≤ e.a ∧ e.b ≤ s.size) → foldE p (backL s g es) (foldE q es o + g) = o + g := by
  intro es
  induction es with
  | nil => intro g o _ _ _; rfl
  | cons x r ih =>
    intro g o ha hf hb
    obtain ⟨h1, h2, h3⟩ := ha.tail
    have hz := oldE_size (s := s) (hb x (List.mem_cons_self ..)).1 h2 (hb x (List.mem_cons_self ..)).2
    show oneE p (foldE p (backL s (g + dE x) r) (foldE q (x :: r) o + g)) (newE s g x) = o + g
    rcases fold_step (right := q) ha hf with ⟨a1, a2, a3⟩ | ⟨a1, a2, a3⟩
    · rw [a2, fold_stay _ _ (fun y hy => by
        have := backL_low s r (g + dE x) x.b h1 h3 y hy
        unfold dE at this
        omega)]
      unfold oneE newE
      simp only
      rw [if_pos (by omega)]
    · have hI := ih (g + dE x) o h1 (fun y hy => hf y (List.mem_cons_of_mem _ hy)) (fun e he => hb e (List.mem_cons_of_mem _ he))
      rw [a2, show foldE q r o + dE x + g = foldE q r o + (g + dE x) by omega, hI]
      unfold oneE newE
      simp only
      unfold dE at *
      rw [if_neg (by omega), if_pos (by omega), hz]
      omega
theorem backL_mem (s : ByteArray) : ∀ (es : List Ed) (g : Int), ∀ y ∈ backL s g es, ∃ x ∈ es, y.t = oldE s x ∧ y.b = y.a + x.t.size := by
  intro es
  induction es with
  | nil => intro g y hy; cases hy
  | cons x r ih =>
    intro g y hy
    rcases List.mem_cons.1 hy with rfl | hy
    · exact ⟨x, List.mem_cons_self .., rfl, rfl⟩
    · obtain ⟨z, hz, e1, e2⟩ := ih _ y hy
      exact ⟨z, List.mem_cons_of_mem _ hz, e1, e2⟩
theorem backL_len (s : ByteArray) : ∀ (es : List Ed) (g : Int), (backL s g es).length = es.length := by
  intro es
  induction es with
  | nil => intro g; rfl
  | cons x r ih => intro g; simp [backL, ih]
/-- All begin at or behind the text's beginning. -/
theorem backL_pos (s : ByteArray) {es : List Ed} (ha : Asc es) (h0 : ∀ e ∈ es, 0 ≤ e.a) : ∀ y ∈ backL s 0 es, 0 ≤ y.a := by
  intro y hy
  have := backL_low s es 0 (-1) ha (fun e he => by have := h0 e he; omega) y hy
  omega
/-- There and back. -/
theorem mvR_back {s : ByteArray} {es : List Ed} (ha : Asc es) (hb : ∀ e ∈ es, 0 ≤ e.a ∧ e.b ≤ s.size) {r : Rg} (h1 : Far es r.a) (h2 : Far es r.b) (h3 : r.a ≤ r.b) : mvR (backL s 0 es) (mvR es r) = r := by
  obtain ⟨a, b, p, q, u⟩ := r
  simp only at h1 h2 h3
  have hB := backL_asc s es 0 ha
  have m1 := fold_mono (p := p) (q := q) es a b ha h1 h2 h3
  have e1 := fold_back (p := p) (q := p) s es 0 a ha h1 hb
  have e2 := fold_back (p := q) (q := q) s es 0 b ha h2 hb
  rw [Int.add_zero, Int.add_zero] at e1 e2
  unfold mvR
  simp only [moveE_asc ha, moveE_asc hB]
  rw [Int.min_eq_left m1, e1, e2, Int.min_eq_left h3]
end Go.Gim

/- change: spans, Grown, May, Sort. Conditions: fewer than 20 edits of at most 100000 bytes each. -/
namespace Go.Gim
/-- How many bytes there are behind edits. -/
def grownE (n : Int) (es : List Ed) : Int := es.foldl (fun n e => n + dE e) n
/-- May edits be done to n bytes? -/
def mayE (n : Int) (es : List Ed) : Int := if rangedE n es ≠ 0 then rangedE n es else if 65536 < grownE n es then 4 else 0
theorem rangedE_or (n : Int) (es : List Ed) : rangedE n es = 0 ∨ rangedE n es = 3 ∨ rangedE n es = 5 := by
  unfold rangedE
  split
  · split
    · exact .inl rfl
    · exact .inr (.inr rfl)
  · exact .inr (.inl rfl)
theorem mayE_bad {n : Int} {es : List Ed} (h : rangedE n es ≠ 0) : mayE n es = rangedE n es := if_pos h
theorem mayE_fit {n : Int} {es : List Ed} (h : rangedE n es = 0) : mayE n es = if 65536 < grownE n es then 4 else 0 := by unfold mayE; rw [if_neg (fun e => e h)]
theorem rangedE_mem {n : Int} {es : List Ed} (h : rangedE n es = 0) : ∀ e ∈ es, 0 ≤ e.a ∧ e.a ≤ e.b ∧ e.b ≤ n := by
  unfold rangedE at h
  split at h
  · rename_i ha
    intro e he
    have := List.all_eq_true.1 ha e he
    unfold mayS edS at this
    exact of_decide_eq_true this
  · cases h
theorem grownE_step (n : Int) {es : List Ed} {k : Nat} {x : Ed} (hx : es[k]? = some x) : grownE n (es.take (k + 1)) = grownE n (es.take k) + dE x := by
  obtain ⟨hk, rfl⟩ := List.getElem?_eq_some_iff.1 hx
  unfold grownE
  rw [List.take_succ_eq_append_getElem hk, List.foldl_append]
  rfl
/-- An edit whose ends and text are no larger than may be. -/
def EdNear (e : Ed) : Prop := -1000000 ≤ e.a ∧ e.a ≤ 1000000 ∧ -1000000 ≤ e.b ∧ e.b ≤ 1000000 ∧ e.t.size ≤ 100000
theorem EdOk.near {e : Ed} (h : EdOk e) : EdNear e := by obtain ⟨h1, h2, h3, h4⟩ := h; exact ⟨by omega, by omega, by omega, by omega, h4⟩
theorem grownE_bd {n : Int} {es : List Ed} (hok : ∀ e ∈ es, EdNear e) : ∀ k, n - k * 3000000 ≤ grownE n (es.take k) ∧ grownE n (es.take k) ≤ n + k * 3000000 := by
  intro k
  induction k with
  | zero => simp [grownE]
  | succ k ih =>
    by_cases hk : k < es.length
    · rw [grownE_step n (List.getElem?_eq_getElem hk)]
      obtain ⟨h1, h2, h3, h4, h5⟩ := hok _ (List.getElem_mem hk)
      unfold dE
      omega
    · rw [List.take_of_length_le (by omega)]
      rw [List.take_of_length_le (by omega)] at ih
      omega
end Go.Gim
namespace Go.Proofs.Ytffplppglicibaa
open Go.RowKit Go.Gim

set_option maxHeartbeats 1600000 in
set_option maxRecDepth 1000000 in
theorem cspans_any (ao : Option Addr) (cap : Nat) (l : List Ed) (w : World) (hr : Reads w 3 ao l.length (edE.cells l)) (hn : l.length ≤ 1000) :
    Calls Try.prog 69 #[.slice ao l.length cap] w fun e w' => ∃ a2 c2, e = .returned (.slice a2 l.length c2) ∧ Reads w' 2 a2 l.length (prE.cells (l.map edS)) ∧ NilOr a2 l.length ∧ Ext w w' := by
  have hl1 : maxLen = 9223372036854775807 := rfl
  have Hr := Lib.hid hr
  obtain ⟨N, hN⟩ : ∃ N, N = l.length := ⟨_, rfl⟩
  have HN := Lib.hid hN
  rw [← hN] at hn ⊢
  clear hr hN
  go_enter Try.func69, Try.ntmps69
  go_wp2_with fail
  go_loopw [3, 8] (fun v i wr => ∃ k : Nat, k ≤ N ∧ i = .int .i64 k ∧ Hid (wr.ownsRow w.heap.size 31 2 v k (prE.cells ((l.map edS).take k)) ∧ (k = 0 → v = .slice none 0 0)) ∧ Ext w wr) (fun _ i _ => N - (intOf i).toNat)
  case atStart => exact ⟨0, by omega, rfl, Lib.hid ⟨World.ownsRow_nil _ _ _ _, fun _ => rfl⟩, Mod.refl _ _⟩
  case round =>
    obtain ⟨k, hk, rfl, HO, hx⟩ := hrel
    by_cases hlt : k < N
    · have hlt' : (k : Int) < (N : Int) := by omega
      have hk0 : (0 : Int) ≤ (k : Int) := by omega
      obtain ⟨b, off, rfl⟩ := Hr.out.some (by have := HN.out; omega)
      have hlk : k < l.length := by rw [← HN.out]; exact hlt
      obtain ⟨c0, c1, c2⟩ := rdEd_at (Hr.out.mod hx (fun _ _ f => f)) (List.getElem?_eq_getElem hlk)
      have Hts := Lib.hid (show (l.map edS).take (k + 1) = (l.map edS).take k ++ [edS l[k]] by rw [List.take_succ_eq_append_getElem (by simpa using hlk)]; simp)
      generalize l[k] = x at *
      have Hlt := Lib.hid hlt
      have hbl := World.block_lt_of_cell? wr _ c0
      clear hlk
      go_upto_region 5 with fail
      obtain ⟨u, hu⟩ : ∃ u, u = wr.alloc (.cells #[.int .i64 x.a, .int .i64 x.b, .string x.t] 37) := ⟨_, rfl⟩
      have hxu : Ext wr u := by rw [hu]; exact (Mod.refl _ wr).alloc _
      have hbu : Blk u wr.heap.size 37 #[.int .i64 x.a, .int .i64 x.b, .string x.t] := by rw [hu]; exact Blk.new _ _ _
      rw [← hu]
      clear c0 c1 c2 hbl hu
      have c0 : u.cell? ⟨wr.heap.size, 0, none⟩ = some (.int .i64 x.a) := hbu.cell 0
      have c1 : u.cell? ⟨wr.heap.size, 1, none⟩ = some (.int .i64 x.b) := hbu.cell 1
      have hlu := hbu.lt
      have hy := hx.ext_trans hxu
      have HOu := Lib.hid (ownsRow_mod HO.out.1 hxu (fun _ _ f => f))
      go_wp2_with (at_builtin; refine wpList_append_reads rfl _ _ 77 rfl w.heap.size 31 _ 2 16 Try.info31 Try.underlying77 rfl (by decide) _ k _ rfl (HOu.out.alloc _) _ 1 1 [.int .i64 x.a, .int .i64 x.b] rfl ?hrd (prE.one (x.a, x.b)) (by omega) (by omega) ?hbs ?_)
      case hrd =>
        have := Reads.new u 31 #[.int .i64 x.a, .int .i64 x.b] 2 1 rfl
        simpa using this
      case hbs => have := hy.size; simp; omega
      intro v' w4 hown hm4 hbk
      have hx4 := (hy.alloc _).over hm4 (fun i hi => (HOu.out.lt i hi).1)
      have Hown := Lib.hid hown
      clear hm4 hbk hown c0 c1 hlu
      go_wp2_with fail
      go_roundw
      case rel => exact ⟨k + 1, Hlt.out, by go_num, Lib.hid ⟨by rw [Hts.out, prE.cells_append]; exact Hown.out, fun h => absurd h (by omega)⟩, hx4⟩
      case measure => have := Hlt.out; simp [intOf]; omega
    · have hlt' : ¬ (k : Int) < (N : Int) := by omega
      obtain rfl : k = N := by omega
      have hS := HO.out.1
      rw [List.take_of_length_le (by rw [List.length_map, ← HN.out]; exact Nat.le_refl _)] at hS
      obtain ⟨a2, c2, hv2, hrd⟩ := Enc.owns_reads (E := prE) hS
      have Hnil := Lib.hid (show NilOr a2 k from fun hz => by have := HO.out.2 hz; rw [hv2] at this; cases this; rfl)
      subst hv2
      have Hrd := Lib.hid hrd
      clear hS HO hrd
      go_wp2_with fail
      go_ret
      exact ⟨a2, ⟨c2, rfl⟩, Hrd.out, Hnil.out, hx⟩

set_option maxHeartbeats 1600000 in
set_option maxRecDepth 1000000 in
theorem cgrown_any (n : Int) (ao : Option Addr) (cap : Nat) (l : List Ed) (w : World) (hr : Reads w 3 ao l.length (edE.cells l)) (hn : l.length ≤ 1000) (hok : ∀ e ∈ l, EdNear e) (h0 : -1000000000 ≤ n) (h1 : n ≤ 1000000000) :
    Calls Try.prog 70 #[.int .i64 n, .slice ao l.length cap] w fun e w' => e = .returned (.int .i64 (grownE n l)) ∧ Ext w w' := by
  have Hr := Lib.hid hr
  have Hok := Lib.hid hok
  have Hbd := Lib.hid (grownE_bd (n := n) hok)
  obtain ⟨N, hN⟩ : ∃ N, N = l.length := ⟨_, rfl⟩
  have HN := Lib.hid hN
  rw [← hN] at hn ⊢
  clear hr hN hok
  go_enter Try.func70, Try.ntmps70
  go_wp2_with fail
  go_loopw [0, 9] (fun g i wr => ∃ k : Nat, k ≤ N ∧ i = .int .i64 k ∧ g = .int .i64 (grownE n (l.take k)) ∧ Ext w wr) (fun _ i _ => N - (intOf i).toNat)
  case atStart => exact ⟨0, by omega, rfl, rfl, Mod.refl _ _⟩
  case round =>
    obtain ⟨k, hk, rfl, rfl, hx⟩ := hrel
    by_cases hlt : k < N
    · have hlt' : (k : Int) < (N : Int) := by omega
      have hk0 : (0 : Int) ≤ (k : Int) := by omega
      obtain ⟨b, off, rfl⟩ := Hr.out.some (by have := HN.out; omega)
      have hlk : k < l.length := by rw [← HN.out]; exact hlt
      obtain ⟨c0, c1, c2⟩ := rdEd_at (Hr.out.mod hx (fun _ _ f => f)) (List.getElem?_eq_getElem hlk)
      have Hst := Lib.hid (grownE_step n (List.getElem?_eq_getElem hlk))
      obtain ⟨e1, e2, e3, e4, e5⟩ := Hok.out _ (List.getElem_mem hlk)
      have hb1 := Hbd.out k
      have hb2 := Hbd.out (k + 1)
      rw [Hst.out] at hb2
      generalize l[k] = x at *
      generalize grownE n (l.take k) = G at *
      unfold dE at Hst hb2
      have HL := Lib.hid (fun w' => spLen_any (x.a, x.b) w' (by simp only; omega) (by simp only; omega))
      have s1 : IntKind.i64.wrap ((x.t.size : Int) - (x.b - x.a)) = (x.t.size : Int) - (x.b - x.a) := IntWalk.i64_in _ (by omega)
      have s2 : IntKind.i64.wrap (G + ((x.t.size : Int) - (x.b - x.a))) = G + ((x.t.size : Int) - (x.b - x.a)) := IntWalk.i64_in _ (by omega)
      have hbl := World.block_lt_of_cell? wr _ c0
      clear hlk
      go_upto_region 4 with fail
      obtain ⟨u, hu⟩ : ∃ u, u = wr.alloc (.cells #[.int .i64 x.a, .int .i64 x.b, .string x.t] 37) := ⟨_, rfl⟩
      have hxu : Ext wr u := by rw [hu]; exact (Mod.refl _ wr).alloc _
      have hbu : Blk u wr.heap.size 37 #[.int .i64 x.a, .int .i64 x.b, .string x.t] := by rw [hu]; exact Blk.new _ _ _
      rw [← hu]
      clear c0 c1 c2 hbl hu
      have c0 : u.cell? ⟨wr.heap.size, 0, none⟩ = some (.int .i64 x.a) := hbu.cell 0
      have c1 : u.cell? ⟨wr.heap.size, 1, none⟩ = some (.int .i64 x.b) := hbu.cell 1
      have c2 : u.cell? ⟨wr.heap.size, 2, none⟩ = some (.string x.t) := hbu.cell 2
      have hlu := hbu.lt
      refine wp_region_ext_lit (by kernel_rfl) (by kernel_rfl) ?_
      repeat (go_big_quiet_step (exact Calls.ext_of (HL.out _)))
      refine wpQuiet_nil ?_
      intro we hxe
      have hy := (hx.ext_trans hxu).ext_trans hxe
      clear c0 c1 c2 hlu hbu
      go_wp2_with fail
      go_roundw
      case rel => exact ⟨k + 1, by omega, by go_num, by rw [Hst.out], hy⟩
      case measure => simp [intOf]; omega
    · have hlt' : ¬ (k : Int) < (N : Int) := by omega
      obtain rfl : k = N := by omega
      have HE := Lib.hid (show grownE n (l.take k) = grownE n l by rw [List.take_of_length_le (by rw [← HN.out]; exact Nat.le_refl _)])
      go_wp2_with fail
      go_ret
      exact ⟨ret_int HE.out, hx⟩

set_option maxHeartbeats 1600000 in
set_option maxRecDepth 1000000 in
theorem cmay_any (n : Int) (ao : Option Addr) (cap : Nat) (l : List Ed) (w : World) (hr : Reads w 3 ao l.length (edE.cells l)) (hn : l.length ≤ 19) (h0 : 0 ≤ n) (h1 : n ≤ 1000000) (ht : ∀ e ∈ l, e.t.size ≤ 100000) :
    Calls Try.prog 51 #[.int .i64 n, .slice ao l.length cap] w fun e w' => e = .returned (.int .i64 (mayE n l)) ∧ Ext w w' := by
  have Hr := Lib.hid hr
  have Hno := Lib.hid (fun i e hi h => rangedE_no (n := n) (es := l) (i := i) (e := e) hi h)
  have Hyes := Lib.hid (rangedE_yes (n := n) (es := l))
  have Hbad := Lib.hid (mayE_bad (n := n) (es := l))
  have Hfit := Lib.hid (mayE_fit (n := n) (es := l))
  have Ht := Lib.hid ht
  have HSp := Lib.hid (fun w' (h : Ext w w') => cspans_any ao cap l w' (hr.mod h (fun _ _ f => f)) (by omega))
  have HAp := Lib.hid (fun a c w' hh hz => apart_any a c (l.map edS) w' hh hz (by rw [List.length_map]; exact hn))
  rw [List.length_map] at HAp
  have HGr := Lib.hid (fun w' (h : Ext w w') (hok : ∀ e ∈ l, EdNear e) => cgrown_any n ao cap l w' (hr.mod h (fun _ _ f => f)) (by omega) hok (by omega) (by omega))
  obtain ⟨N, hN⟩ : ∃ N, N = l.length := ⟨_, rfl⟩
  have HN := Lib.hid hN
  rw [← hN] at hn HSp HAp HGr Hyes ⊢
  generalize mayE n l = C at *
  clear hr hN ht
  go_enter Try.func51, Try.ntmps51
  go_wp2_with fail
  go_loopw [9] (fun i wr => ∃ k : Nat, k ≤ N ∧ i = .int .i64 k ∧ Hid (∀ (j : Nat) (e : Ed), j < k → l[j]? = some e → mayS (edS e) n = true) ∧ Ext w wr) (fun i _ => N - (intOf i).toNat)
  case atStart => exact ⟨0, by omega, rfl, Lib.hid (fun j e hj => absurd hj (Nat.not_lt_zero j)), Mod.refl _ _⟩
  case round =>
    obtain ⟨k, hk, rfl, HO, hx⟩ := hrel
    by_cases hlt : k < N
    · have hlt' : (k : Int) < (N : Int) := by omega
      have hk0 : (0 : Int) ≤ (k : Int) := by omega
      obtain ⟨b, off, rfl⟩ := Hr.out.some (by have := HN.out; omega)
      have hlk : k < l.length := by rw [← HN.out]; exact hlt
      obtain ⟨c0, c1, c2⟩ := rdEd_at (Hr.out.mod hx (fun _ _ f => f)) (List.getElem?_eq_getElem hlk)
      have Hlx := Lib.hid (List.getElem?_eq_getElem hlk)
      generalize l[k] = x at *
      have Hlt := Lib.hid hlt
      have Hm := Lib.hid (fun w' => spMay_any (edS x) n w')
      have hbl := World.block_lt_of_cell? wr _ c0
      clear hlk
      go_upto_region 4 with fail
      obtain ⟨u, hu⟩ : ∃ u, u = wr.alloc (.cells #[.int .i64 x.a, .int .i64 x.b, .string x.t] 37) := ⟨_, rfl⟩
      have hxu : Ext wr u := by rw [hu]; exact (Mod.refl _ wr).alloc _
      have hbu : Blk u wr.heap.size 37 #[.int .i64 x.a, .int .i64 x.b, .string x.t] := by rw [hu]; exact Blk.new _ _ _
      rw [← hu]
      clear c0 c1 c2 hbl hu
      have c0 : u.cell? ⟨wr.heap.size, 0, none⟩ = some (.int .i64 x.a) := hbu.cell 0
      have c1 : u.cell? ⟨wr.heap.size, 1, none⟩ = some (.int .i64 x.b) := hbu.cell 1
      have hlu := hbu.lt
      have hy := hx.ext_trans hxu
      cases hm : mayS (edS x) n with
      | false =>
        have HR3 := Lib.hid (Hno.out k x Hlx.out hm)
        have HC := Lib.hid (show (3 : Int) = C by rw [Hbad.out (by rw [HR3.out]; decide), HR3.out])
        rw [hm] at Hm
        go_wp2_with fail
        refine (Hm.out _).mono ?_
        rintro e w2 ⟨rfl, hx2⟩
        go_wp2_with fail
        go_ret
        exact ⟨ret_int HC.out, hy.ext_trans hx2⟩
      | true =>
        rw [hm] at Hm
        have Hmay := Lib.hid hm
        clear hm
        go_wp2_with fail
        refine (Hm.out _).mono ?_
        rintro e w2 ⟨rfl, hx2⟩
        clear c0 c1 hlu
        go_wp2_with fail
        go_roundw
        case rel =>
          refine ⟨k + 1, Hlt.out, by go_num, Lib.hid (fun j e hj he => ?_), hy.ext_trans hx2⟩
          by_cases hjk : j = k
          · subst hjk
            rw [Hlx.out] at he
            cases he; exact Hmay.out
          · exact HO.out j e (by omega) he
        case measure => have := Hlt.out; simp [intOf]; omega
    · have hlt' : ¬ (k : Int) < (N : Int) := by omega
      obtain rfl : k = N := by omega
      have HR := Lib.hid (Hyes.out HO.out)
      have Hnear := Lib.hid (show ∀ e ∈ l, EdNear e by
        intro e he
        obtain ⟨i, hi, rfl⟩ := List.getElem_of_mem he
        have hm := HO.out i _ (by rw [HN.out]; exact hi) (List.getElem?_eq_getElem hi)
        unfold mayS edS at hm
        have hm := of_decide_eq_true hm
        simp only at hm
        have := Ht.out _ he
        exact ⟨by omega, by omega, by omega, by omega, this⟩)
      have HSp2 := Lib.hid (HSp.out _ hx)
      have HGr2 := Lib.hid (fun w' (h : Ext w w') => HGr.out w' h Hnear.out)
      clear HO HSp HGr Hnear
      go_wp2_with fail
      refine HSp2.out.mono ?_
      rintro e w2 ⟨a1, c1, rfl, hrd, hnil, hx2⟩
      have HAp1 := Lib.hid (HAp.out a1 c1 w2 hrd hnil)
      have hy2 := hx.ext_trans hx2
      clear HAp HSp2 hrd hnil hx2
      go_wp2_with fail
      refine HAp1.out.mono ?_
      rintro e w3 ⟨rfl, hx3⟩
      have hy3 := hy2.ext_trans hx3
      clear HAp1
      cases hap : apartB (l.map edS) with
      | false =>
        rw [hap] at HR
        have HR5 := Lib.hid (show rangedE n l = 5 from HR.out)
        have HC := Lib.hid (show (5 : Int) = C by rw [Hbad.out (by rw [HR5.out]; decide), HR5.out])
        go_wp2_with fail
        go_ret
        exact ⟨ret_int HC.out, hy3⟩
      | true =>
        rw [hap] at HR
        have HC := Lib.hid (Hfit.out (show rangedE n l = 0 from HR.out))
        have HGr3 := Lib.hid (HGr2.out _ hy3)
        generalize grownE n l = G at *
        clear HGr2 HR hap
        go_wp2_with fail
        refine HGr3.out.mono ?_
        rintro e w4 ⟨rfl, hx4⟩
        have hy4 := hy3.ext_trans hx4
        by_cases hG : 65536 < G
        · have HC4 := Lib.hid (show (4 : Int) = C by rw [HC.out, if_pos hG])
          go_wp2_with fail
          go_ret
          exact ⟨ret_int HC4.out, hy4⟩
        · have HC4 := Lib.hid (show (0 : Int) = C by rw [HC.out, if_neg hG])
          go_wp2_with fail
          go_ret
          exact ⟨ret_int HC4.out, hy4⟩

/-- Sort at whatever edits. -/
theorem sortC_any (ao : Option Addr) (cap : Nat) (l : List Ed) (w : World) (hr : Reads w 3 ao l.length (edE.cells l)) (hn : l.length ≤ 19) :
    Calls Try.prog 52 #[.slice ao l.length cap] w fun e w' => ∃ a2 c2, e = .returned (.slice a2 l.length c2) ∧ Reads w' 3 a2 l.length (edE.cells (sorted lessE l)) ∧ (0 < l.length → ∀ a, a2 = some a → w.heap.size ≤ a.block) ∧ Ext w w' := by
  by_cases h0 : 0 < l.length
  · obtain ⟨b, off, rfl⟩ := hr.some h0
    refine (sortC_some b off cap l w hr h0 hn).mono ?_
    rintro e w' ⟨g, c, rfl, hg, hrow, hx⟩
    have h1 := hrow.reads
    rw [sorted_length] at h1
    exact ⟨_, c, rfl, h1, fun _ a ha => by cases ha; exact hg, hx⟩
  · obtain rfl : l = [] := List.eq_nil_of_length_eq_zero (by omega)
    cases ao with
    | none =>
      refine (sortC_none cap w).mono ?_
      rintro e w' ⟨rfl, rfl⟩
      exact ⟨none, 0, rfl, Enc.reads_none (E := edE), fun h => absurd h (by decide), Mod.refl _ _⟩
    | some a =>
      refine (sortC_empty a cap w).mono ?_
      rintro e w' ⟨ao, c, rfl, hx⟩
      exact ⟨ao, c, rfl, Enc.reads_none (E := edE), fun h => absurd h (by decide), hx⟩
end Go.Proofs.Ytffplppglicibaa

/- Edits that leave both ends of a range in peace, plainly: how far the statement's loop has come. Conditions: none. -/
namespace Go.Gim
theorem asc_rangedN {n : Int} {es : List Ed} (h : Asc es) (hm : ∀ e ∈ es, 0 ≤ e.a ∧ e.b ≤ n) : rangedE n es = 0 := by
  unfold rangedE
  rw [if_pos, if_pos]
  · have : apartB (es.map edS) = true := by
      refine apartB_yes (fun i hi => ?_)
      have hs : sorted lessB (es.map edS) = es.map edS := by
        refine sorted_self lessB _ ?_
        rw [List.pairwise_map]
        refine List.Pairwise.imp_of_mem ?_ h.2
        intro e f he hf hlt
        have := h.1 e he
        unfold lessB edS
        refine decide_eq_false ?_
        simp only
        omega
      rw [hs]
      rw [List.length_map] at hi
      have hx : (es.map edS)[i]? = some (edS es[i]) := by rw [List.getElem?_map, List.getElem?_eq_getElem hi]; rfl
      rw [okAt_yes hx]
      refine ⟨h.1 _ (List.getElem_mem hi), fun j y e hy => ?_⟩
      subst e
      have hy2 : y = edS (es[j]'(by omega)) := by
        rw [List.getElem?_map, List.getElem?_eq_getElem (by omega : j < es.length)] at hy
        exact (Option.some.inj hy).symm
      have hp := List.pairwise_iff_getElem.1 h.2 j (j + 1) (by omega) hi (by omega)
      have ha := h.1 _ (List.getElem_mem (l := es) (by omega : j < es.length))
      rw [hy2]
      unfold edS
      simp only
      omega
    exact this
  · refine List.all_eq_true.2 fun e he => ?_
    have h1 := hm e he
    have h2 := h.1 e he
    unfold mayS edS
    exact decide_eq_true ⟨h1.1, h2, h1.2⟩
theorem grownE_le {M : Nat} : ∀ (es : List Ed) (n : Int), (∀ e ∈ es, e.a ≤ e.b ∧ e.t.size ≤ M) → grownE n es ≤ n + (es.length : Int) * M := by
  intro es
  induction es with
  | nil => intro n _; simp [grownE]
  | cons x r ih =>
    intro n h
    have h1 := ih (n + dE x) (fun e he => h e (List.mem_cons_of_mem _ he))
    obtain ⟨h2, h3⟩ := h x (List.mem_cons_self ..)
    have h4 : grownE n (x :: r) = grownE (n + dE x) r := rfl
    rw [h4, List.length_cons]
    have h5 : ((r.length + 1 : Nat) : Int) * (M : Int) = (r.length : Int) * M + M := by rw [Int.natCast_add, Int.add_mul]; simp
    rw [h5]
    unfold dE at *
    omega
theorem backL_top (s : ByteArray) {M : Nat} : ∀ (es : List Ed) (g c : Int), (∀ e ∈ es, e.a ≤ e.b ∧ e.b ≤ c ∧ e.t.size ≤ M) → ∀ y ∈ backL s g es, y.b ≤ c + g + (es.length : Int) * M := by
  intro es
  induction es with
  | nil => intro g c _ y hy; cases hy
  | cons x r ih =>
    intro g c h y hy
    obtain ⟨h1, h2, h3⟩ := h x (List.mem_cons_self ..)
    have h5 : ((r.length + 1 : Nat) : Int) * (M : Int) = (r.length : Int) * M + M := by rw [Int.natCast_add, Int.add_mul]; simp
    have h6 : (0 : Int) ≤ (r.length : Int) * M := Int.mul_nonneg (by omega) (by omega)
    rw [List.length_cons, h5]
    rcases List.mem_cons.1 hy with rfl | hy
    · show x.a + g + x.t.size ≤ _
      omega
    · have := ih (g + dE x) c (fun e he => h e (List.mem_cons_of_mem _ he)) y hy
      unfold dE at this
      omega
/-- How far the loop has come: the edits so far, where the last one ends, k looked at. -/
structure RetSt (z a b : Int) (E : List Ed) (A : Int) (k : Nat) : Prop where
  asc : Asc E
  far1 : Far E a
  far2 : Far E b
  mem : ∀ e ∈ E, 0 ≤ e.a ∧ e.b ≤ A ∧ e.t.size ≤ 100
  lo : 0 ≤ A
  hi : A ≤ z
  len : E.length ≤ k
  first : k = 0 → E = []
theorem RetSt.start (z a b : Int) (h : 0 ≤ z) : RetSt z a b [] 0 0 :=
  ⟨⟨by simp, List.Pairwise.nil⟩, (fun e he => by cases he), (fun e he => by cases he), (fun e he => by cases he), Int.le_refl _, h, Nat.le_refl _, fun _ => rfl⟩
theorem RetSt.skip {z a b : Int} {E : List Ed} {A : Int} {k : Nat} (h : RetSt z a b E A k) : RetSt z a b E A (k + 1) :=
  ⟨h.asc, h.far1, h.far2, h.mem, h.lo, h.hi, Nat.le_succ_of_le h.len, fun e => absurd e (by omega)⟩
theorem RetSt.take {z a b : Int} {E : List Ed} {A : Int} {k : Nat} (h : RetSt z a b E A k) {x y : Int} {t : ByteArray} (h1 : A ≤ x) (h2 : k = 0 ∨ x ≠ A) (h3 : x ≤ y) (h4 : y ≤ z) (h5 : a < x ∨ y < a) (h6 : b < x ∨ y < b) (ht : t.size ≤ 100) :
    RetSt z a b (E ++ [⟨x, y, t⟩]) y (k + 1) := by
  have hlo := h.lo
  have hE : ∀ e ∈ E, e.b < x := by
    intro e he
    rcases h2 with h2 | h2
    · rw [h.first h2] at he; cases he
    · have := (h.mem e he).2.1; omega
  refine ⟨⟨fun e he => ?_, ?_⟩, ?_, ?_, ?_, by omega, h4, ?_, fun e => absurd e (by omega)⟩
  · rcases List.mem_append.1 he with he | he
    · exact h.asc.1 e he
    · rw [List.mem_singleton.1 he]; exact h3
  · refine List.pairwise_append.2 ⟨h.asc.2, List.pairwise_singleton _ _, fun e he f hf => ?_⟩
    rw [List.mem_singleton.1 hf]
    exact hE e he
  · intro e he
    rcases List.mem_append.1 he with he | he
    · exact h.far1 e he
    · rw [List.mem_singleton.1 he]; exact h5
  · intro e he
    rcases List.mem_append.1 he with he | he
    · exact h.far2 e he
    · rw [List.mem_singleton.1 he]; exact h6
  · intro e he
    rcases List.mem_append.1 he with he | he
    · obtain ⟨m1, m2, m3⟩ := h.mem e he; exact ⟨m1, by omega, m3⟩
    · rw [List.mem_singleton.1 he]; exact ⟨by simp only; omega, Int.le_refl _, ht⟩
  · rw [List.length_append, List.length_singleton]; have := h.len; omega
/-- What the statement needs of the edits at the end. -/
theorem RetSt.done {s : ByteArray} {a b : Int} {E : List Ed} {A : Int} {k : Nat} (hs : s.size ≤ 80) (hk : k ≤ 8) (h : RetSt s.size a b E A k) (h0 : 0 ≤ a) (h1 : a ≤ b) (h2 : b ≤ s.size) (p q : Bool) :
    mayE s.size E = 0 ∧ rangedE 65536 E = 0 ∧ (∀ e ∈ E, EdOk e) ∧ backE s E = backL s 0 E ∧ rangedE 65536 (backL s 0 E) = 0 ∧ (∀ e ∈ backL s 0 E, EdOk e) ∧ (backL s 0 E).length ≤ 8 ∧ E.length ≤ 8 ∧ mvR (backL s 0 E) (mvR E ⟨a, b, p, q, 0⟩) = ⟨a, b, p, q, 0⟩ := by
  have hi := h.hi
  have hl := h.len
  have hab := h.asc.1
  have hmem : ∀ e ∈ E, 0 ≤ e.a ∧ e.b ≤ s.size := fun e he => by obtain ⟨m1, m2, m3⟩ := h.mem e he; exact ⟨m1, by omega⟩
  have hR : rangedE s.size E = 0 := asc_rangedN h.asc hmem
  have hG := grownE_le (M := 100) E s.size (fun e he => ⟨hab e he, (h.mem e he).2.2⟩)
  have hgl : (E.length : Int) * ((100 : Nat) : Int) ≤ 800 := by omega
  have hB : backE s E = backL s 0 E := backE_asc h.asc (fun e he => (h.mem e he).1)
  have hBa := backL_asc s E 0 h.asc
  have hBp := backL_pos s h.asc (fun e he => (h.mem e he).1)
  have hBt := backL_top s (M := 100) E 0 s.size (fun e he => ⟨hab e he, (hmem e he).2, (h.mem e he).2.2⟩)
  have hBm : ∀ e ∈ backL s 0 E, 0 ≤ e.a ∧ e.b ≤ 65536 := fun e he => ⟨hBp e he, by have := hBt e he; omega⟩
  refine ⟨?_, asc_ranged h.asc (fun e he => ⟨(hmem e he).1, by have := (hmem e he).2; omega⟩), fun e he => ⟨(hmem e he).1, hab e he, by have := (hmem e he).2; omega, by have := (h.mem e he).2.2; omega⟩, hB, asc_ranged hBa hBm, fun e he => ⟨(hBm e he).1, hBa.1 e he, (hBm e he).2, ?_⟩, by rw [backL_len]; omega, by omega, mvR_back h.asc hmem h.far1 h.far2 h1⟩
  · rw [mayE_fit hR, if_neg (by omega)]
  · obtain ⟨x, hx, e1, e2⟩ := backL_mem s E 0 e he
    rw [e1]
    unfold oldE
    rw [ByteArray.size_extract]
    omega
end Go.Gim

/- change.Back. Conditions: a text of at most 65536 bytes, fewer than 20 edits of at most 100000 bytes each. -/
namespace Go.Gim
theorem backT_step (s : ByteArray) {S : List Ed} {k : Nat} {x : Ed} (hx : S[k]? = some x) : backT s (S.take (k + 1)) = backStep s (backT s (S.take k)) x := by
  obtain ⟨hk, rfl⟩ := List.getElem?_eq_some_iff.1 hx
  unfold backT
  rw [List.take_succ_eq_append_getElem hk, List.foldl_append]
  rfl
theorem oldE_le (s : ByteArray) {e : Ed} (h : EdOk e) : ((oldE s e).size : Int) ≤ 65536 := by
  obtain ⟨h1, h2, h3, _⟩ := h
  unfold oldE
  rw [ByteArray.size_extract]
  omega
structure BkBd (st : Bk) (k : Nat) : Prop where
  len : st.out.length ≤ k
  g0 : -((k : Int) * 65536) ≤ st.g
  g1 : st.g ≤ (k : Int) * 100000
  b : ∀ y ∈ st.out, -((k : Int) * 65536) ≤ y.b ∧ y.b ≤ 65536 + (k : Int) * 200000 ∧ (y.t.size : Int) ≤ (k : Int) * 65536
set_option maxRecDepth 100000 in
theorem BkBd.step {s : ByteArray} {st : Bk} {k : Nat} (h : BkBd st k) {x : Ed} (hx : EdOk x) : BkBd (backStep s st x) (k + 1) := by
  have ho := oldE_le s hx
  obtain ⟨x1, x2, x3, x4⟩ := hx
  have g0 := h.g0
  have g1 := h.g1
  have hl := h.len
  have hnew : ∀ y ∈ st.out ++ [newE s st.g x], -(((k + 1 : Nat) : Int) * 65536) ≤ y.b ∧ y.b ≤ 65536 + ((k + 1 : Nat) : Int) * 200000 ∧ (y.t.size : Int) ≤ ((k + 1 : Nat) : Int) * 65536 := by
    intro y hy
    rcases List.mem_append.1 hy with hy | hy
    · obtain ⟨b1, b2, b3⟩ := h.b y hy
      exact ⟨by omega, by omega, by omega⟩
    · rw [List.mem_singleton.1 hy]
      unfold newE
      simp only
      refine ⟨by omega, by omega, by omega⟩
  have hlen : (st.out ++ [newE s st.g x]).length ≤ k + 1 := by rw [List.length_append, List.length_singleton]; omega
  refine ⟨?_, ?_, ?_, ?_⟩
  · show (backOut s st x).length ≤ k + 1
    unfold backOut
    split
    · split
      · rw [List.length_set]; omega
      · exact hlen
    · exact hlen
  · show -(((k + 1 : Nat) : Int) * 65536) ≤ st.g + dE x
    unfold dE; omega
  · show st.g + dE x ≤ ((k + 1 : Nat) : Int) * 100000
    unfold dE; omega
  · show ∀ y ∈ backOut s st x, _
    unfold backOut
    split
    · rename_i z hz
      split
      · intro y hy
        rcases List.mem_or_eq_of_mem_set hy with hy | rfl
        · obtain ⟨b1, b2, b3⟩ := h.b y hy
          exact ⟨by omega, by omega, by omega⟩
        · obtain ⟨b1, b2, b3⟩ := h.b z (List.mem_of_getLast? hz)
          simp only
          refine ⟨by omega, by omega, ?_⟩
          rw [ByteArray.size_append]
          omega
      · exact hnew
    · exact hnew
theorem backT_bd {s : ByteArray} {S : List Ed} (hok : ∀ e ∈ S, EdOk e) : ∀ k, k ≤ S.length → BkBd (backT s (S.take k)) k := by
  intro k
  induction k with
  | zero => intro _; exact ⟨by simp [backT], by simp [backT], by simp [backT], by simp [backT]⟩
  | succ k ih =>
    intro hk
    rw [backT_step s (List.getElem?_eq_getElem (by omega : k < S.length))]
    exact (ih (by omega)).step (hok _ (List.getElem_mem _))
theorem backOut_new {s : ByteArray} {st : Bk} {x : Ed} (h : st.out = [] ∨ x.a ≠ st.e) : backOut s st x = st.out ++ [newE s st.g x] := by
  unfold backOut
  split
  · rename_i y hy
    rcases h with h | h
    · rw [h] at hy; cases hy
    · rw [if_neg h]
  · rfl
theorem backOut_add {s : ByteArray} {st : Bk} {x y : Ed} (hy : st.out.getLast? = some y) (h : x.a = st.e) : backOut s st x = st.out.set (st.out.length - 1) ⟨y.a, y.b + x.t.size, y.t ++ oldE s x⟩ := by
  unfold backOut
  rw [hy]
  simp only
  rw [if_pos h]
end Go.Gim
namespace Go.Proofs.Ytffplppglicibaa
open Go.RowKit Go.Gim

/-- What Back answers. -/
def BackPost (s : ByteArray) (l : List Ed) (w : World) (e : Ending) (w' : World) : Prop :=
  ∃ a2 c2, e = .returned (.tuple #[.slice a2 (backE s l).length c2, .int .i64 0]) ∧ w'.ownsRow w.heap.size 37 3 (.slice a2 (backE s l).length c2) (backE s l).length (edE.cells (backE s l)) ∧ Ext w w'

set_option maxHeartbeats 3200000 in
set_option maxRecDepth 1000000 in
theorem cback_yes (s : ByteArray) (ao : Option Addr) (cap : Nat) (l : List Ed) (w : World) (hs : s.size ≤ 65536) (hr : Reads w 3 ao l.length (edE.cells l)) (hn : l.length ≤ 19) (ht : ∀ e ∈ l, e.t.size ≤ 100000) (hm : mayE s.size l = 0) :
    Calls Try.prog 30 #[.string s, .slice ao l.length cap] w (BackPost s l w) := by
  have hl1 : maxLen = 9223372036854775807 := rfl
  have HM := Lib.hid (cmay_any s.size ao cap l w hr hn (by omega) (by omega) ht)
  rw [hm] at HM
  have hrz : rangedE s.size l = 0 := by
    rcases rangedE_or s.size l with h | h | h
    · exact h
    · rw [mayE_bad (by rw [h]; decide), h] at hm; cases hm
    · rw [mayE_bad (by rw [h]; decide), h] at hm; cases hm
  have hok : ∀ e ∈ sorted lessE l, EdOk e := fun e he => by
    have he := (sorted_mem lessE l e).1 he
    obtain ⟨h1, h2, h3⟩ := rangedE_mem hrz e he
    exact ⟨h1, h2, by omega, ht e he⟩
  have hin : ∀ e ∈ sorted lessE l, e.b ≤ s.size := fun e he => (rangedE_mem hrz e ((sorted_mem lessE l e).1 he)).2.2
  have HSo := Lib.hid (fun w' (h : Ext w w') => sortC_any ao cap l w' (hr.mod h (fun _ _ f => f)) hn)
  have hSl := sorted_length lessE l
  have Hbd := Lib.hid (backT_bd (s := s) hok)
  have Hok := Lib.hid hok
  have Hin := Lib.hid hin
  have Hfin := Lib.hid (show backE s l = (backT s (sorted lessE l)).out from rfl)
  unfold BackPost
  generalize sorted lessE l = S at *
  generalize backE s l = E at *
  obtain ⟨N, hN⟩ : ∃ N, N = l.length := ⟨_, rfl⟩
  rw [← hN] at hn hSl HSo HM ⊢
  have HSl := Lib.hid hSl
  clear hr hN ht hm hrz hok hin hSl
  go_enter Try.func30, Try.ntmps30
  go_wp2_with fail
  refine HM.out.mono ?_
  rintro e w1 ⟨rfl, hx1⟩
  have HSo2 := Lib.hid (HSo.out w1 hx1)
  clear HM HSo
  go_wp2_with fail
  refine HSo2.out.mono ?_
  rintro e w2 ⟨a1, c1, rfl, hrd, -, hx2⟩
  have Hrd := Lib.hid hrd
  have hx0 := hx1.ext_trans hx2
  have hz2 := hx0.size
  clear HSo2 hrd hx1 hx2
  go_wp2_with fail
  go_loopw [7, 8, 9, 25] (fun v g en i wr => ∃ k : Nat, k ≤ N ∧ i = .int .i64 k ∧ g = .int .i64 (backT s (S.take k)).g ∧ en = .int .i64 (backT s (S.take k)).e ∧ Hid (wr.ownsRow w2.heap.size 37 3 v (backT s (S.take k)).out.length (edE.cells (backT s (S.take k)).out)) ∧ Ext w wr ∧ Ext w2 wr) (fun _ _ _ i _ => N - (intOf i).toNat)
  case atStart => exact ⟨0, by omega, rfl, rfl, rfl, Lib.hid (World.ownsRow_nil _ _ _ _), hx0, Mod.refl _ _⟩
  case round =>
    obtain ⟨k, hk, rfl, rfl, rfl, HO, hx, hy⟩ := hrel
    by_cases hlt : k < N
    · have hlt' : (k : Int) < (N : Int) := by omega
      have hk0 : (0 : Int) ≤ (k : Int) := by omega
      obtain ⟨b, off, rfl⟩ := Hrd.out.some (by omega)
      have hlk : k < S.length := by rw [HSl.out]; exact hlt
      obtain ⟨c0, c1', c2⟩ := rdEd_at (Hrd.out.mod hy (fun _ _ f => f)) (List.getElem?_eq_getElem hlk)
      have Hst := Lib.hid (backT_step s (List.getElem?_eq_getElem hlk))
      have hbd := Hbd.out k (by omega)
      have HO1 := Lib.hid (oldE_le s (Hok.out _ (List.getElem_mem hlk)))
      obtain ⟨x1, x2, x3, x4⟩ := Hok.out _ (List.getElem_mem hlk)
      have x5 := Hin.out _ (List.getElem_mem hlk)
      generalize S[k] = x at *
      generalize backT s (S.take k) = st at *
      obtain ⟨out, g, en⟩ := st
      obtain ⟨d1, d2, d3, d4⟩ := hbd
      simp only at d1 d2 d3 d4 HO
      have HB4 := Lib.hid d4
      have HL := Lib.hid (fun w' => spLen_any (x.a, x.b) w' (by simp only; omega) (by simp only; omega))
      obtain ⟨va, vc, hva, _, _⟩ := ownsRow_shape HO.out
      subst hva
      have Hlow := Lib.hid (fun i hi => (HO.out.lt i hi).2)
      have hbl := World.block_lt_of_cell? wr _ c0
      clear hlk d4
      go_upto_region 11 with fail
      obtain ⟨u, hu⟩ : ∃ u, u = wr.alloc (.cells #[.int .i64 x.a, .int .i64 x.b, .string x.t] 37) := ⟨_, rfl⟩
      have hxu : Ext wr u := by rw [hu]; exact (Mod.refl _ wr).alloc _
      have hbu : Blk u wr.heap.size 37 #[.int .i64 x.a, .int .i64 x.b, .string x.t] := by rw [hu]; exact Blk.new _ _ _
      rw [← hu]
      clear c0 c1' c2 hbl hu
      have c0 : u.cell? ⟨wr.heap.size, 0, none⟩ = some (.int .i64 x.a) := hbu.cell 0
      have c1' : u.cell? ⟨wr.heap.size, 1, none⟩ = some (.int .i64 x.b) := hbu.cell 1
      have c2 : u.cell? ⟨wr.heap.size, 2, none⟩ = some (.string x.t) := hbu.cell 2
      have hlu := hbu.lt
      have s1 : IntKind.i64.wrap ((x.t.size : Int) - (x.b - x.a)) = (x.t.size : Int) - (x.b - x.a) := IntWalk.i64_in _ (by omega)
      have s2 : IntKind.i64.wrap (g + ((x.t.size : Int) - (x.b - x.a))) = g + ((x.t.size : Int) - (x.b - x.a)) := IntWalk.i64_in _ (by omega)
      refine wp_region_ext_lit (by kernel_rfl) (by kernel_rfl) ?_
      repeat (go_big_quiet_step (exact Calls.ext_of (HL.out _)))
      refine wpQuiet_nil ?_
      intro we hxe
      have hbe := hbu.mod hxe (fun f => f)
      have hxw := hxu.ext_trans hxe
      have HOe := Lib.hid (ownsRow_mod HO.out hxw (fun _ _ f => f))
      have hxB := hx.ext_trans hxw
      have hyB := hy.ext_trans hxw
      clear c0 c1' c2 hlu hbu hxu hxe HL s1 s2 HO hx hy
      have c0 : we.cell? ⟨wr.heap.size, 0, none⟩ = some (.int .i64 x.a) := hbe.cell 0
      have c1' : we.cell? ⟨wr.heap.size, 1, none⟩ = some (.int .i64 x.b) := hbe.cell 1
      have c2 : we.cell? ⟨wr.heap.size, 2, none⟩ = some (.string x.t) := hbe.cell 2
      have hlu := hbe.lt
      rcases Nat.eq_zero_or_pos out.length with hz | hz
      · have HZ := Lib.hid (backOut_new (s := s) (st := ⟨out, g, en⟩) (x := x) (.inl (List.eq_nil_of_length_eq_zero hz)))
        have hz1 : (out.length : Int) - 1 = -1 := by omega
        have hj0 : ¬ (0 : Int) ≤ -1 := by omega
        go_upto_region 17 with fail
        clear hz hz1 hj0
        have HStep := Lib.hid (show backT s (S.take (k + 1)) = ⟨out ++ [newE s g x], g + dE x, x.b⟩ by rw [Hst.out]; unfold backStep; rw [HZ.out])
        go_wp2_with (at_builtin; refine wpList_append_reads rfl _ _ 47 rfl w2.heap.size 37 _ 3 32 Try.info37 Try.underlying47 rfl (by decide) _ out.length _ rfl (HOe.out.alloc _) _ 1 1 [.int .i64 (x.a + g), .int .i64 (x.a + g + x.t.size), .string (oldE s x)] rfl ?hrd (edE.one (newE s g x)) (by omega) (by omega) ?hbs ?_)
        case hrd =>
          have := Reads.new we 37 #[.int .i64 (x.a + g), .int .i64 (x.a + g + x.t.size), .string (oldE s x)] 3 1 rfl
          simpa [oldE] using this
        case hbs => have := hyB.size; simp; omega
        intro v' w4 hown hm4 hbk
        have hal : Ext we (we.alloc (.cells #[.int .i64 (x.a + g), .int .i64 (x.a + g + x.t.size), .string (oldE s x)] 37)) := (Mod.refl _ we).alloc _
        have hx4 := (hxB.ext_trans hal).over hm4 (fun i hi => Nat.le_trans hz2 (HOe.out.lt i hi).1)
        have hy4 := (hyB.ext_trans hal).over hm4 (fun i hi => (HOe.out.lt i hi).1)
        have hb4 := (hbe.mod hal (fun f => f)).mod hm4 (fun e => Nat.lt_irrefl _ (Hlow.out _ e))
        have Hown := Lib.hid hown
        clear hm4 hbk hown c0 c1' c2 hlu hal
        have c1' : w4.cell? ⟨wr.heap.size, 1, none⟩ = some (.int .i64 x.b) := hb4.cell 1
        have hlu := hb4.lt
        go_wp2_with fail
        go_roundw
        case rel => exact ⟨k + 1, by omega, by go_num, by rw [HStep.out]; rfl, by rw [HStep.out], Lib.hid (by rw [HStep.out, edE.cells_append, List.length_append, List.length_singleton]; exact Hown.out), hx4, hy4⟩
        case measure => simp [intOf]; omega
      · obtain ⟨j, hj⟩ : ∃ j, out.length = j + 1 := ⟨out.length - 1, by omega⟩
        have hz1 : (out.length : Int) - 1 = (j : Int) := by omega
        have hjm : (j : Int) < (out.length : Int) := by omega
        have hj0 : (0 : Int) ≤ (j : Int) := by omega
        have HJ := Lib.hid hj
        clear hj hz
        by_cases he : x.a = en
        · have he1 : (x.a == en) = true := by simpa using he
          obtain ⟨g0, gc, hg0⟩ := Enc.owns_some (E := edE) HOe.out (by rw [HJ.out]; omega)
          injection hg0 with e1 e2 e3
          subst e1
          subst e3
          clear e2
          have hjo : j < out.length := by omega
          obtain ⟨y, hjl⟩ : ∃ y, out[j]? = some y := ⟨_, List.getElem?_eq_getElem hjo⟩
          have hla : out.getLast? = some y := by rw [List.getLast?_eq_getElem?, show out.length - 1 = j from by have := HJ.out; omega]; exact hjl
          obtain ⟨b1, b2, b3⟩ := HB4.out _ (List.mem_of_getElem? hjl)
          clear hjo
          have HZ := Lib.hid (backOut_add (s := s) (st := ⟨out, g, en⟩) (x := x) (y := y) hla he)
          have Hjl := Lib.hid hjl
          have ho2 := HO1.out
          have y0 := Enc.owns_cell (E := edE) HOe.out hjl (j := 0) rfl
          have y1 := Enc.owns_cell (E := edE) HOe.out hjl (j := 1) rfl
          have y2 := Enc.owns_cell (E := edE) HOe.out hjl (j := 2) rfl
          rw [show edE.k = 3 from rfl] at y0 y1 y2
          rw [Nat.add_zero] at y0
          have f1 := Enc.owns_free (E := edE) HOe.out (j * 3 + 1)
          have f2 := Enc.owns_free (E := edE) HOe.out (j * 3 + 2)
          have hgl := (Enc.owns_block (E := edE) HOe.out).2
          have hne : g0 ≠ wr.heap.size := fun e => Nat.lt_irrefl _ (Hlow.out _ (by rw [e]; rfl))
          clear hjl hla he
          go_upto_region 15 with fail
          refine wp_region_ext_tail 13 (by kernel_rfl) (by kernel_rfl) ?_
          simp only [List.take_succ_cons, List.take_zero, List.drop_succ_cons, List.drop_zero]
          repeat (go_big_quiet_step (fail))
          refine wpQuiet_nil ?_
          intro wf hxf
          have HOf := Lib.hid (ownsRow_mod HOe.out hxf (fun _ _ f => f))
          have hbf := hbe.mod hxf (fun f => f)
          have hxF := hxB.ext_trans hxf
          have hyF := hyB.ext_trans hxf
          clear c0 c1' c2 hlu hbe y0 y1 y2 f1 f2 hgl hxf hxB hyB HOe
          have c1' : wf.cell? ⟨wr.heap.size, 1, none⟩ = some (.int .i64 x.b) := hbf.cell 1
          have hlu := hbf.lt
          have y1 := Enc.owns_cell (E := edE) HOf.out Hjl.out (j := 1) rfl
          have y2 := Enc.owns_cell (E := edE) HOf.out Hjl.out (j := 2) rfl
          rw [show edE.k = 3 from rfl] at y1 y2
          have f1 := Enc.owns_free (E := edE) HOf.out (j * 3 + 1)
          have f2 := Enc.owns_free (E := edE) HOf.out (j * 3 + 2)
          have hgl := (Enc.owns_block (E := edE) HOf.out).2
          have hgb := (Enc.owns_block (E := edE) HOf.out).1
          have ho3 : ((s.extract x.a.toNat x.b.toNat).size : Int) ≤ 65536 := ho2
          have hcat : ¬ (9223372036854775807 : Int) < (y.t.size : Int) + ((s.extract x.a.toNat x.b.toNat).size : Int) := by omega
          have hne2 : ¬ wr.heap.size = g0 := fun e => hne e.symm
          have hs1 := Enc.owns_set (E := edE) HOf.out Hjl.out (j := 1) (by decide) (v := .int .i64 (y.b + x.t.size)) ⟨y.a, y.b + x.t.size, y.t⟩ rfl
          have hs2 := Enc.owns_set2 (E := edE) hs1 (List.getElem?_eq_some_iff.1 Hjl.out).1 (j := 2) (by decide) (v := .string (y.t ++ oldE s x)) (y := ⟨y.a, y.b + x.t.size, y.t ++ oldE s x⟩) rfl
          have HS2 := Lib.hid hs2
          have HStep := Lib.hid (show backT s (S.take (k + 1)) = ⟨out.set (out.length - 1) ⟨y.a, y.b + x.t.size, y.t ++ oldE s x⟩, g + dE x, x.b⟩ by rw [Hst.out]; unfold backStep; rw [HZ.out])
          clear hs1 hs2
          go_wp2_with fail
          go_roundw
          case rel =>
            refine ⟨k + 1, by omega, by go_num, by rw [HStep.out]; rfl, by rw [HStep.out], Lib.hid ?_, ?_, ?_⟩
            · rw [HStep.out]
              simp only
              rw [List.length_set, show out.length - 1 = j from by have := HJ.out; omega]
              exact HS2.out
            · exact (hxF.setCell (p := ⟨g0, j * 3 + 1, none⟩) (fun h => absurd h (by simp only; omega)) _).setCell (p := ⟨g0, j * 3 + 2, none⟩) (fun h => absurd h (by simp only; omega)) _
            · exact (hyF.setCell (p := ⟨g0, j * 3 + 1, none⟩) (fun h => absurd h (by simp only; omega)) _).setCell (p := ⟨g0, j * 3 + 2, none⟩) (fun h => absurd h (by simp only; omega)) _
          case measure => simp [intOf]; omega
        · have he1 : (x.a == en) = false := by simpa using he
          have HZ := Lib.hid (backOut_new (s := s) (st := ⟨out, g, en⟩) (x := x) (.inr he))
          go_upto_region 17 with fail
          have HStep := Lib.hid (show backT s (S.take (k + 1)) = ⟨out ++ [newE s g x], g + dE x, x.b⟩ by rw [Hst.out]; unfold backStep; rw [HZ.out])
          go_wp2_with (at_builtin; refine wpList_append_reads rfl _ _ 47 rfl w2.heap.size 37 _ 3 32 Try.info37 Try.underlying47 rfl (by decide) _ out.length _ rfl (HOe.out.alloc _) _ 1 1 [.int .i64 (x.a + g), .int .i64 (x.a + g + x.t.size), .string (oldE s x)] rfl ?hrd (edE.one (newE s g x)) (by omega) (by omega) ?hbs ?_)
          case hrd =>
            have := Reads.new we 37 #[.int .i64 (x.a + g), .int .i64 (x.a + g + x.t.size), .string (oldE s x)] 3 1 rfl
            simpa [oldE] using this
          case hbs => have := hyB.size; simp; omega
          intro v' w4 hown hm4 hbk
          have hal : Ext we (we.alloc (.cells #[.int .i64 (x.a + g), .int .i64 (x.a + g + x.t.size), .string (oldE s x)] 37)) := (Mod.refl _ we).alloc _
          have hx4 := (hxB.ext_trans hal).over hm4 (fun i hi => Nat.le_trans hz2 (HOe.out.lt i hi).1)
          have hy4 := (hyB.ext_trans hal).over hm4 (fun i hi => (HOe.out.lt i hi).1)
          have hb4 := (hbe.mod hal (fun f => f)).mod hm4 (fun e => Nat.lt_irrefl _ (Hlow.out _ e))
          have Hown := Lib.hid hown
          clear hm4 hbk hown c0 c1' c2 hlu hal
          have c1' : w4.cell? ⟨wr.heap.size, 1, none⟩ = some (.int .i64 x.b) := hb4.cell 1
          have hlu := hb4.lt
          go_wp2_with fail
          go_roundw
          case rel => exact ⟨k + 1, by omega, by go_num, by rw [HStep.out]; rfl, by rw [HStep.out], Lib.hid (by rw [HStep.out, edE.cells_append, List.length_append, List.length_singleton]; exact Hown.out), hx4, hy4⟩
          case measure => simp [intOf]; omega
    · have hlt' : ¬ (k : Int) < (N : Int) := by omega
      obtain rfl : k = N := by omega
      have hO := HO.out
      rw [List.take_of_length_le (by rw [HSl.out]; exact Nat.le_refl _), ← Hfin.out] at hO
      obtain ⟨va, vc, hva, _, _⟩ := ownsRow_shape hO
      subst hva
      have HO2 := Lib.hid hO
      clear hO HO
      go_wp2_with fail
      go_ret2
      exact ⟨va, vc, rfl, ownsRow_base HO2.out hz2, hx⟩
end Go.Proofs.Ytffplppglicibaa

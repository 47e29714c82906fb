/- What gimletlaw3's whole answers of a rope: true; and the small functions of that package. Conditions: a rope of at most 65536 bytes. -/
import Derived.Test.YtbcjlbapgidhiaaGimUnder
import Derived.Test.YtbcjlbapgidhiaaGimRope1
namespace Go.Proofs.Ytbcjlbapgidhiaa
open Go.RowKit Go.Gim

/-- What whole's loop holds. -/
def WholeAt (R : Rp) (k : Nat) (s : ByteArray) : Prop := k ≤ R.t.owns.length ∧ s.data.toList = join (R.t.owns.take k)

theorem adj_at {l : List ByteArray} (h : Adj l) : ∀ (j : Nat) (a b : ByteArray), l[j]? = some a → l[j + 1]? = some b → 64 < a.size + b.size := by
  induction l with
  | nil => intro j a b h1; simp at h1
  | cons x r ih =>
    intro j a b h1 h2
    cases r with
    | nil => simp at h2
    | cons y q =>
      cases j with
      | zero => simp at h1 h2; subst h1; subst h2; exact h.1
      | succ j => exact ih h.2 j a b (by simpa using h1) (by simpa using h2)
theorem owns_at (t : T) (d i : Nat) (x : Pc) (h : (t.pcs d)[i]? = some x) : t.owns[i]? = some x.own := by
  rw [← pcs_own t d, List.getElem?_map, h]; rfl
theorem owns_len (t : T) : t.owns.length = t.count := by rw [← pcs_own t 0, List.length_map, pcs_len]
theorem join_take_step {l : List ByteArray} {k : Nat} {x : ByteArray} (h : l[k]? = some x) : join (l.take (k + 1)) = join (l.take k) ++ x.data.toList := by
  obtain ⟨hk, rfl⟩ := List.getElem?_eq_some_iff.1 h
  rw [List.take_succ_eq_append_getElem hk, join_append]; simp [join]
theorem join_take_le2 (ps : List ByteArray) (k : Nat) : (join (ps.take k)).length ≤ (join ps).length := by
  have : join ps = join (ps.take k) ++ join (ps.drop k) := by rw [← join_append, List.take_append_drop]
  rw [this, List.length_append]; omega

set_option maxHeartbeats 1600000 in
set_option maxRecDepth 1000000 in
theorem whole_any (R : Rp) (w : World) (h : RopeAt w R) : Calls Try.prog 27 #[.pointer (some ⟨R.rb, 0, none⟩)] w fun e w' => e = .returned (.bool true) ∧ Ext w w' := by
  have hsz := h.size
  have hcl := count_le h.pcs
  have hpcs := Lib.hid h.pcs
  have hol := owns_len R.t
  have hjl : (join R.t.owns).length = R.t.size := (T.size_join R.t).symm
  go_enter Try.func27, Try.ntmps27
  go_wp2_with fail
  refine (piecesOf_any R _ h).mono ?_
  rintro e w1 ⟨v, rfl, hr, hx⟩
  have h1 := h.ext hx
  have hpl := pcs_len R.t 0
  obtain ⟨ao, cap, rfl, hcap, hag⟩ := ownsRow_shape hr.2
  have hrd : Reads w1 3 ao (R.t.pcs 0).length (pcCells (R.t.pcs 0)) := Reads.own hr.2
  have hcell : ∀ (k : Nat) (x : Pc), (R.t.pcs 0)[k]? = some x → ∃ g, ao = some ⟨g, 0, none⟩ ∧ w1.cell? ⟨g, k * 3, none⟩ = some (.string x.own) := by
    intro k x hk
    have hk2 := (List.getElem?_eq_some_iff.1 hk).1
    obtain ⟨g, rfl⟩ := hag (by omega)
    obtain ⟨q0, _⟩ := reads_piece hrd hk
    rw [Nat.zero_add] at q0
    exact ⟨g, rfl, q0⟩
  have hst : Stand (R.t.pcs 0) 0 (R.t.pcs 0) := fun j x hx => by rw [Nat.zero_add]; exact hx
  have hun := fun (w2 : World) (hx2 : Ext w1 w2) => under_any R.t (R.t.pcs 0) ao cap 0 ((R.t.pcs 0).length : Nat) 0 4294967295 w2 (hrd.mod hx2 (fun _ _ f => f)) (by omega) (by rw [hpl]; omega) (by omega) (by omega) (by omega) hst h.heap h.le
  have hon : ∀ (k : Nat), k < (R.t.pcs 0).length → ∃ x : Pc, (R.t.pcs 0)[k]? = some x := fun k hk => ⟨_, List.getElem?_eq_getElem hk⟩
  have howns := fun (k : Nat) (x : Pc) (hk : (R.t.pcs 0)[k]? = some x) => owns_at R.t 0 k x hk
  have Hcell := Lib.hid hcell
  have Hon := Lib.hid hon
  have Hun := Lib.hid hun
  have Howns := Lib.hid howns
  have hpc : (R.t.pcs 0).length ≤ R.t.owns.length ∧ R.t.owns.length ≤ (R.t.pcs 0).length := by omega
  have Hjl := Lib.hid hjl
  have hLb : (R.t.pcs 0).length ≤ 65536 := by omega
  clear hcell hon hun howns hrd hr hst hag hpl hol hjl
  generalize hLL : R.t.pcs 0 = LL at *
  clear hLL
  go_wp2_with fail
  go_loop [4, 5] (fun s1 s2 => ∃ (k : Nat) (s : ByteArray), s2 = .int .i64 k ∧ s1 = .string s ∧ Hid (WholeAt R k s)) (fun _ s2 => LL.length - (intOf s2).toNat)
  case atStart => exact ⟨0, _, rfl, rfl, Lib.hid ⟨by omega, rfl⟩⟩
  case round =>
    obtain ⟨k, s, rfl, rfl, HW⟩ := hrel
    have hss : s.size ≤ 65536 := by
      have h2 := congrArg List.length HW.out.2
      have h3 := join_take_le2 R.t.owns k
      have := Hjl.out
      rw [toList_length] at h2
      omega
    by_cases hk : k < LL.length
    · have hk' : (k : Int) < (LL.length : Int) := by omega
      have hk0 : (0 : Int) ≤ (k : Int) := by omega
      obtain ⟨x, hx0⟩ := Hon.out k hk
      have ho := Howns.out k x hx0
      obtain ⟨g, rfl, q0⟩ := Hcell.out k x hx0
      have hx1 := hpcs.out.1 x.own (List.mem_of_getElem? ho)
      have hstep := join_take_step ho
      have Ho := Lib.hid ho
      have Hstep := Lib.hid hstep
      clear ho hx0 hstep
      generalize x.own = y at *
      have b1 : ¬ ((y.size : Int) < 1) := by omega
      have b2 : ¬ ((64 : Int) < (y.size : Int)) := by omega
      cases k with
      | zero =>
        go_wp2_with fail
        go_round
        case rel =>
          refine ⟨1, _, by go_num, rfl, Lib.hid ⟨by omega, ?_⟩⟩
          rw [Hstep.out, ← HW.out.2]; simp
        case measure => simp [intOf]; omega
      | succ j =>
        obtain ⟨z, hz0⟩ := Hon.out j (by omega)
        have hoz := Howns.out j z hz0
        obtain ⟨g', hg', q1⟩ := Hcell.out j z hz0
        cases hg'
        have had := adj_at hpcs.out.2 j _ _ hoz Ho.out
        have hx2 := hpcs.out.1 z.own (List.mem_of_getElem? hoz)
        clear hoz hz0
        generalize z.own = y2 at *
        have b3 : decide ((y.size : Int) + (y2.size : Int) ≤ 64) = false := by simp; omega
        have b4 : (0 : Int) ≤ (j : Int) := by omega
        have b7 : (64 : Int) < (y.size : Int) + (y2.size : Int) := by omega
        have b6 : (j : Int) ≤ 65536 := by omega
        have b5 : (j : Int) < (LL.length : Int) := by omega
        go_wp2_with fail
        go_round
        case rel =>
          refine ⟨j + 1 + 1, _, by go_num, rfl, Lib.hid ⟨by omega, ?_⟩⟩
          rw [Hstep.out, ← HW.out.2]; simp
        case measure => simp [intOf]; omega
    · have hk' : ¬ (k : Int) < (LL.length : Int) := by omega
      obtain rfl : k = R.t.owns.length := by have := HW.out.1; omega
      have hs : s = bs R.text := by
        have h2 := HW.out.2
        rw [List.take_length] at h2
        rw [← bs_of s, h2, Rp.text, T.text_owns]
      subst hs
      have e1 : (bs R.text).size = R.t.size := rfl
      have b1 : ((bs R.text).toList == (bs R.text).toList) = true := str_eq rfl
      have b2 : (((bs R.text).size : Int) == (R.t.size : Int)) = true := by rw [e1]; simp
      have B2 := Lib.hid b2
      clear e1 b2
      go_wp2_with fail
      refine (text_rope R _ h1).mono ?_
      rintro e w2 ⟨rfl, hx2⟩
      have h2 := h1.ext hx2
      go_wp2_with fail
      refine (len_any R _ h2).mono ?_
      rintro e w3 ⟨rfl, rfl⟩
      have b2 := B2.out
      go_wp2_with fail
      refine (Hun.out _ hx2).mono ?_
      rintro e w3 ⟨rfl, rfl⟩
      go_wp2_with fail
      go_ret
      exact ⟨rfl, hx.ext_trans hx2⟩

end Go.Proofs.Ytbcjlbapgidhiaa

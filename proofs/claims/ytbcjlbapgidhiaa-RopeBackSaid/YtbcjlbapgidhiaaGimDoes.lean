/- What a deed of gimletlaw3's statements does to a rope and to a text: the one as the other. Conditions: at most 60000 bytes. -/
import Derived.Test.YtbcjlbapgidhiaaGimHeld
import Derived.Test.YtbcjlbapgidhiaaGimDeeds
import Derived.Test.YtbcjlbapgidhiaaGimLaw3
namespace Go.Proofs.Ytbcjlbapgidhiaa
open Go.RowKit Go.Gim

theorem low_nat (x : Int) (n : Nat) (m : Int) (hm : m = n) (h1 : 1 ≤ n) (h2 : n ≤ 1000000) : ∃ p : Nat, p < n ∧ ∀ v, Calls Try.prog 30 #[.int .i64 x, .int .i64 m] v fun e w' => e = .returned (.int .i64 (p : Nat)) ∧ w' = v := by
  subst hm
  refine ⟨lowN x n, lowN_lt x n (by omega), fun v => ?_⟩
  have h := low_any x n v (by omega) (by omega)
  rwa [Int.toNat_natCast] at h

/-- Behind a deed: a rope of the text that it leaves; it answered right. -/
def DoesPost (w0 : World) (D : Dice) (n : Nat) (e : Ending) (w' : World) : Prop :=
  ∃ (R' : Rp) (s' : ByteArray), e = .returned (.tuple #[.string s', .pointer (some ⟨R'.rb, 0, none⟩), .bool true]) ∧ Held w0 D R' s' w' ∧ s'.size ≤ n

theorem DoesPost.of {w0 w' : World} {D : Dice} {n : Nat} {R R' : Rp} {s' : ByteArray} (hrb : R'.rb = R.rb) (hH : Held w0 D R' s' w') (hs : s'.size ≤ n) : DoesPost w0 D n (.returned (.tuple #[.string s', .pointer (some ⟨R.rb, 0, none⟩), .bool true])) w' :=
  ⟨R', s', by rw [hrb], hH, hs⟩

set_option maxHeartbeats 1600000 in
set_option maxRecDepth 1000000 in
theorem does_in (w0 w : World) (D : Dice) (R : Rp) (s : ByteArray) (x : Dd) (hH : Held w0 D R s w) (hz : s.size + 2 * x.s.size ≤ 60000) (k : Nat) (hk : lowN x.k 8 = k) (hk2 : k = 0 ∨ k = 1) :
    Calls Try.prog 53 #[.pointer (some ⟨R.rb, 0, none⟩), .pointer (some ⟨D.d, 0, none⟩), .string s, .agg #[.int .i64 x.k, .int .i64 x.a, .int .i64 x.b, .string x.s]] w (DoesPost w0 D (s.size + 2 * x.s.size)) := by
  obtain ⟨p, hp, L1⟩ := low_nat x.a (s.size + 3) ((s.size : Int) + 3) (by omega) (by omega) (by omega)
  obtain ⟨q, hq, L2⟩ := low_nat x.b (s.size + 3) ((s.size : Int) + 3) (by omega) (by omega) (by omega)
  have L3 := fun v => low_any x.k 8 v (by omega) (by omega)
  rw [show (8 : Int).toNat = 8 from rfl, hk] at L3
  have hs0 := hH.size
  have hflt := hH.rope.flt
  go_enter Try.func53, Try.ntmps53
  go_wp2_with fail
  obtain ⟨wa, hwa⟩ : ∃ wa, wa = w.alloc (.cells #[.int .i64 x.k, .int .i64 x.a, .int .i64 x.b, .string x.s] 61) := ⟨_, rfl⟩
  have hxa : Ext w wa := by rw [hwa]; exact (Mod.refl _ w).alloc _
  have hbx : Blk wa w.heap.size 61 #[.int .i64 x.k, .int .i64 x.a, .int .i64 x.b, .string x.s] := by rw [hwa]; exact Blk.new _ _ _
  rw [← hwa]
  clear hwa
  have hH := hH.on hxa
  have c0 : wa.cell? ⟨w.heap.size, 0, none⟩ = some (.int .i64 x.k) := hbx.cell 0
  have c1 : wa.cell? ⟨w.heap.size, 1, none⟩ = some (.int .i64 x.a) := hbx.cell 1
  have c2 : wa.cell? ⟨w.heap.size, 2, none⟩ = some (.int .i64 x.b) := hbx.cell 2
  have c3 : wa.cell? ⟨w.heap.size, 3, none⟩ = some (.string x.s) := hbx.cell 3
  have hbl := hbx.lt
  go_wp2_with (go_quiet (first | (with_reducible exact Calls.quiet_of_same (L1 _)) | (with_reducible exact Calls.quiet_of_same (L2 _))))
  refine (L3 _).mono ?_
  rintro e w1 ⟨rfl, rfl⟩
  generalize hA : (p : Int) - 1 = A
  generalize hB : (q : Int) - 1 = B
  replace hH := hH.drewN nq
  replace hxa := hxa.drewN nq
  clear L1 L2 L3 c0 c1 c2
  by_cases hin : 0 ≤ A ∧ A ≤ s.size
  · obtain ⟨h0, h1⟩ := hin
    obtain ⟨a, rfl⟩ := Int.eq_ofNat_of_zero_le h0
    have hi := inside_yes (a : Int) a s.size (wa.drewN nq) ⟨by omega, by omega, by omega⟩
    have hc := insert_yes R (a : Int) x.s _ hH.rope (rises_of ⟨by omega, by omega, by omega⟩) (by omega)
    have h1' : (a : Int) ≤ (s.size : Int) := h1
    rcases hk2 with rfl | rfl
    · go_wp2_with fail
      refine hi.mono ?_
      rintro e w2 ⟨rfl, rfl⟩
      go_wp2_with fail
      refine hc.mono ?_
      rintro e w3 ⟨rfl, R3, hd⟩
      have hb3 := (hbx.drewN nq).mod hd.mod (fun hf => Nat.lt_irrefl _ (hflt _ hf))
      have c3 : w3.cell? ⟨w.heap.size, 3, none⟩ = some (.string x.s) := hb3.cell 3
      have hb3l := hb3.lt
      have hH3 := hH.done hd (by rw [hH.text]; exact splice_in s x.s a)
      have hrb := hd.grew.1
      have hsz := size_in s x.s a (by omega)
      go_wp2_with (go_quiet (fail))
      go_ret3
      exact DoesPost.of hrb (hH3.drewN _) (by omega)
    · go_wp2_with fail
      refine hi.mono ?_
      rintro e w2 ⟨rfl, rfl⟩
      go_wp2_with fail
      refine hc.mono ?_
      rintro e w3 ⟨rfl, R3, hd⟩
      have hb3 := (hbx.drewN nq).mod hd.mod (fun hf => Nat.lt_irrefl _ (hflt _ hf))
      have c3 : w3.cell? ⟨w.heap.size, 3, none⟩ = some (.string x.s) := hb3.cell 3
      have hb3l := hb3.lt
      have hH3 := hH.done hd (by rw [hH.text]; exact splice_in s x.s a)
      have hrb := hd.grew.1
      have hsz := size_in s x.s a (by omega)
      go_wp2_with (go_quiet (fail))
      go_ret3
      exact DoesPost.of hrb (hH3.drewN _) (by omega)
  · have hi := inside_no A A s.size (wa.drewN nq) (by omega)
    have hc := insert_no R A x.s _ hH.rope (rises_not (by omega))
    rcases hk2 with rfl | rfl
    · go_wp2_with fail
      refine hi.mono ?_
      rintro e w2 ⟨rfl, rfl⟩
      go_wp2_with fail
      refine hc.mono ?_
      rintro e w3 ⟨rfl, rfl⟩
      go_wp2_with fail
      go_ret3
      exact ⟨R, s, rfl, hH, by omega⟩
    · go_wp2_with fail
      refine hi.mono ?_
      rintro e w2 ⟨rfl, rfl⟩
      go_wp2_with fail
      refine hc.mono ?_
      rintro e w3 ⟨rfl, rfl⟩
      go_wp2_with fail
      go_ret3
      exact ⟨R, s, rfl, hH, by omega⟩

set_option maxHeartbeats 1600000 in
set_option maxRecDepth 1000000 in
theorem does_out (w0 w : World) (D : Dice) (R : Rp) (s : ByteArray) (x : Dd) (hH : Held w0 D R s w) (hz : s.size + 2 * x.s.size ≤ 60000) (hk : lowN x.k 8 = 2) :
    Calls Try.prog 53 #[.pointer (some ⟨R.rb, 0, none⟩), .pointer (some ⟨D.d, 0, none⟩), .string s, .agg #[.int .i64 x.k, .int .i64 x.a, .int .i64 x.b, .string x.s]] w (DoesPost w0 D (s.size + 2 * x.s.size)) := by
  obtain ⟨p, hp, L1⟩ := low_nat x.a (s.size + 3) ((s.size : Int) + 3) (by omega) (by omega) (by omega)
  obtain ⟨q, hq, L2⟩ := low_nat x.b (s.size + 3) ((s.size : Int) + 3) (by omega) (by omega) (by omega)
  have L3 := fun v => low_any x.k 8 v (by omega) (by omega)
  rw [show (8 : Int).toNat = 8 from rfl, hk] at L3
  have hs0 := hH.size
  have hflt := hH.rope.flt
  go_enter Try.func53, Try.ntmps53
  go_wp2_with fail
  obtain ⟨wa, hwa⟩ : ∃ wa, wa = w.alloc (.cells #[.int .i64 x.k, .int .i64 x.a, .int .i64 x.b, .string x.s] 61) := ⟨_, rfl⟩
  have hxa : Ext w wa := by rw [hwa]; exact (Mod.refl _ w).alloc _
  have hbx : Blk wa w.heap.size 61 #[.int .i64 x.k, .int .i64 x.a, .int .i64 x.b, .string x.s] := by rw [hwa]; exact Blk.new _ _ _
  rw [← hwa]
  clear hwa
  have hH := hH.on hxa
  have c0 : wa.cell? ⟨w.heap.size, 0, none⟩ = some (.int .i64 x.k) := hbx.cell 0
  have c1 : wa.cell? ⟨w.heap.size, 1, none⟩ = some (.int .i64 x.a) := hbx.cell 1
  have c2 : wa.cell? ⟨w.heap.size, 2, none⟩ = some (.int .i64 x.b) := hbx.cell 2
  have c3 : wa.cell? ⟨w.heap.size, 3, none⟩ = some (.string x.s) := hbx.cell 3
  have hbl := hbx.lt
  go_wp2_with (go_quiet (first | (with_reducible exact Calls.quiet_of_same (L1 _)) | (with_reducible exact Calls.quiet_of_same (L2 _))))
  refine (L3 _).mono ?_
  rintro e w1 ⟨rfl, rfl⟩
  generalize hA : (p : Int) - 1 = A
  generalize hB : (q : Int) - 1 = B
  replace hH := hH.drewN nq
  replace hxa := hxa.drewN nq
  clear L1 L2 L3 c0 c1 c2
  by_cases hin : 0 ≤ A ∧ A ≤ B ∧ B ≤ s.size
  · obtain ⟨h0, h1, h2⟩ := hin
    obtain ⟨a, rfl⟩ := Int.eq_ofNat_of_zero_le h0
    obtain ⟨b, rfl⟩ := Int.eq_ofNat_of_zero_le (show 0 ≤ B by omega)
    have hi := inside_yes (a : Int) b s.size (wa.drewN nq) ⟨by omega, by omega, by omega⟩
    have hc := delete_yes R (a : Int) b _ hH.rope (rises_of ⟨by omega, by omega, by omega⟩)
    have h1' : (a : Int) ≤ (s.size : Int) := by omega
    have h2' : (b : Int) ≤ (s.size : Int) := h2
    go_wp2_with fail
    refine hi.mono ?_
    rintro e w2 ⟨rfl, rfl⟩
    go_wp2_with fail
    refine hc.mono ?_
    rintro e w3 ⟨rfl, R3, hd⟩
    have hH3 := hH.done hd (by rw [hH.text]; exact splice_out s a b)
    have hrb := hd.grew.1
    have hsz := size_out s a b (by omega) (by omega)
    go_wp2_with (go_quiet (fail))
    go_ret3
    exact DoesPost.of hrb (hH3.drewN _) (by omega)
  · have hi := inside_no A B s.size (wa.drewN nq) (by omega)
    have hc := delete_no R A B _ hH.rope (rises_not (by omega))
    go_wp2_with fail
    refine hi.mono ?_
    rintro e w2 ⟨rfl, rfl⟩
    go_wp2_with fail
    refine hc.mono ?_
    rintro e w3 ⟨rfl, rfl⟩
    go_wp2_with fail
    go_ret3
    exact ⟨R, s, rfl, hH, by omega⟩

set_option maxHeartbeats 1600000 in
set_option maxRecDepth 1000000 in
theorem does_cut (w0 w : World) (D : Dice) (R : Rp) (s : ByteArray) (x : Dd) (hH : Held w0 D R s w) (hz : s.size + 2 * x.s.size ≤ 60000) (hk : lowN x.k 8 = 3) :
    Calls Try.prog 53 #[.pointer (some ⟨R.rb, 0, none⟩), .pointer (some ⟨D.d, 0, none⟩), .string s, .agg #[.int .i64 x.k, .int .i64 x.a, .int .i64 x.b, .string x.s]] w (DoesPost w0 D (s.size + 2 * x.s.size)) := by
  obtain ⟨p, hp, L1⟩ := low_nat x.a (s.size + 3) ((s.size : Int) + 3) (by omega) (by omega) (by omega)
  obtain ⟨q, hq, L2⟩ := low_nat x.b (s.size + 3) ((s.size : Int) + 3) (by omega) (by omega) (by omega)
  have L3 := fun v => low_any x.k 8 v (by omega) (by omega)
  rw [show (8 : Int).toNat = 8 from rfl, hk] at L3
  have hs0 := hH.size
  have hflt := hH.rope.flt
  go_enter Try.func53, Try.ntmps53
  go_wp2_with fail
  obtain ⟨wa, hwa⟩ : ∃ wa, wa = w.alloc (.cells #[.int .i64 x.k, .int .i64 x.a, .int .i64 x.b, .string x.s] 61) := ⟨_, rfl⟩
  have hxa : Ext w wa := by rw [hwa]; exact (Mod.refl _ w).alloc _
  have hbx : Blk wa w.heap.size 61 #[.int .i64 x.k, .int .i64 x.a, .int .i64 x.b, .string x.s] := by rw [hwa]; exact Blk.new _ _ _
  rw [← hwa]
  clear hwa
  have hH := hH.on hxa
  have c0 : wa.cell? ⟨w.heap.size, 0, none⟩ = some (.int .i64 x.k) := hbx.cell 0
  have c1 : wa.cell? ⟨w.heap.size, 1, none⟩ = some (.int .i64 x.a) := hbx.cell 1
  have c2 : wa.cell? ⟨w.heap.size, 2, none⟩ = some (.int .i64 x.b) := hbx.cell 2
  have c3 : wa.cell? ⟨w.heap.size, 3, none⟩ = some (.string x.s) := hbx.cell 3
  have hbl := hbx.lt
  go_wp2_with (go_quiet (first | (with_reducible exact Calls.quiet_of_same (L1 _)) | (with_reducible exact Calls.quiet_of_same (L2 _))))
  refine (L3 _).mono ?_
  rintro e w1 ⟨rfl, rfl⟩
  generalize hA : (p : Int) - 1 = A
  generalize hB : (q : Int) - 1 = B
  replace hH := hH.drewN nq
  replace hxa := hxa.drewN nq
  clear L1 L2 L3 c0 c1 c2
  by_cases hin : 0 ≤ A ∧ A ≤ B ∧ B ≤ s.size
  · obtain ⟨h0, h1, h2⟩ := hin
    obtain ⟨a, rfl⟩ := Int.eq_ofNat_of_zero_le h0
    obtain ⟨b, rfl⟩ := Int.eq_ofNat_of_zero_le (show 0 ≤ B by omega)
    have hi := inside_yes (a : Int) b s.size (wa.drewN nq) ⟨by omega, by omega, by omega⟩
    have hc := slice_yes R (a : Int) b _ hH.rope (rises_of ⟨by omega, by omega, by omega⟩)
    have e1 : bs (Gim.cut R.text (a : Int) b) = s.extract a b := by
      rw [hH.text, ← extract_cut s a b a b rfl rfl, bs_of]
    rw [e1] at hc
    have b1 : ((s.extract a b).toList == (s.extract a b).toList) = true := str_eq rfl
    have h1' : (a : Int) ≤ (b : Int) := by omega
    have h2' : (b : Int) ≤ (s.size : Int) := h2
    clear e1
    go_wp2_with fail
    refine hi.mono ?_
    rintro e w2 ⟨rfl, rfl⟩
    go_wp2_with fail
    refine hc.mono ?_
    rintro e w3 ⟨rfl, hx3⟩
    go_wp2_with fail
    go_ret3
    exact ⟨R, s, rfl, hH.on hx3, by omega⟩
  · have hi := inside_no A B s.size (wa.drewN nq) (by omega)
    have hc := slice_no R A B _ hH.rope (rises_not (by omega))
    have b1 : ((⟨#[]⟩ : ByteArray).toList == (⟨#[]⟩ : ByteArray).toList) = true := str_eq rfl
    go_wp2_with fail
    refine hi.mono ?_
    rintro e w2 ⟨rfl, rfl⟩
    go_wp2_with fail
    refine hc.mono ?_
    rintro e w3 ⟨rfl, rfl⟩
    go_wp2_with fail
    go_ret3
    exact ⟨R, s, rfl, hH, by omega⟩

end Go.Proofs.Ytbcjlbapgidhiaa

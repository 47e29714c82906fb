/- What a deed of gimletlaw3's statements does to a rope and to a text: the rest of the kinds, and all of them. Conditions: at most 60000 bytes. -/
import Derived.Test.YtbcjlbapgidhiaaGimDoes
namespace Go.Proofs.Ytbcjlbapgidhiaa
open Go.RowKit Go.Gim

theorem none_len (O : Rp) (w : World) (h : RopeAt w { O with t := .nil }) : Calls Try.prog 33 #[.pointer (some ⟨O.rb, 0, none⟩)] w fun e w' => e = .returned (.int .i64 0) ∧ w' = w := len_any _ w h
theorem none_text (O : Rp) (w : World) (h : RopeAt w { O with t := .nil }) : Calls Try.prog 26 #[.pointer (some ⟨O.rb, 0, none⟩)] w fun e w' => e = .returned (.string ⟨#[]⟩) ∧ Ext w w' := text_rope _ w h

set_option maxHeartbeats 1600000 in
set_option maxRecDepth 1000000 in
theorem does_two (w0 w : World) (D : Dice) (R : Rp) (s : ByteArray) (x : Dd) (hH : Held w0 D R s w) (hz : s.size + 2 * x.s.size ≤ 60000) (hk : lowN x.k 8 = 4) :
    Calls Try.prog 53 #[.pointer (some ⟨R.rb, 0, none⟩), .pointer (some ⟨D.d, 0, none⟩), .string s, .agg #[.int .i64 x.k, .int .i64 x.a, .int .i64 x.b, .string x.s]] w (DoesPost w0 D (s.size + 2 * x.s.size)) := by
  obtain ⟨p, hp, L1⟩ := low_nat x.a (s.size + 3) ((s.size : Int) + 3) (by omega) (by omega) (by omega)
  obtain ⟨q, hq, L2⟩ := low_nat x.b (s.size + 3) ((s.size : Int) + 3) (by omega) (by omega) (by omega)
  have L3 := fun v => low_any x.k 8 v (by omega) (by omega)
  rw [show (8 : Int).toNat = 8 from rfl, hk] at L3
  have hs0 := hH.size
  have hflt := hH.rope.flt
  go_enter Try.func53, Try.ntmps53
  go_wp2_with fail
  obtain ⟨wa, hwa⟩ : ∃ wa, wa = w.alloc (.cells #[.int .i64 x.k, .int .i64 x.a, .int .i64 x.b, .string x.s] 61) := ⟨_, rfl⟩
  have hxa : Ext w wa := by rw [hwa]; exact (Mod.refl _ w).alloc _
  have hbx : Blk wa w.heap.size 61 #[.int .i64 x.k, .int .i64 x.a, .int .i64 x.b, .string x.s] := by rw [hwa]; exact Blk.new _ _ _
  rw [← hwa]
  clear hwa
  have hH := hH.on hxa
  have c0 : wa.cell? ⟨w.heap.size, 0, none⟩ = some (.int .i64 x.k) := hbx.cell 0
  have c1 : wa.cell? ⟨w.heap.size, 1, none⟩ = some (.int .i64 x.a) := hbx.cell 1
  have c2 : wa.cell? ⟨w.heap.size, 2, none⟩ = some (.int .i64 x.b) := hbx.cell 2
  have c3 : wa.cell? ⟨w.heap.size, 3, none⟩ = some (.string x.s) := hbx.cell 3
  have hbl := hbx.lt
  go_wp2_with (go_quiet (first | (with_reducible exact Calls.quiet_of_same (L1 _)) | (with_reducible exact Calls.quiet_of_same (L2 _))))
  refine (L3 _).mono ?_
  rintro e w1 ⟨rfl, rfl⟩
  generalize hA : (p : Int) - 1 = A
  generalize hB : (q : Int) - 1 = B
  replace hH := hH.drewN nq
  replace hxa := hxa.drewN nq
  clear L1 L2 L3 c0 c1 c2
  by_cases hin : 0 ≤ A ∧ A ≤ s.size
  · obtain ⟨h0, h1⟩ := hin
    obtain ⟨a, rfl⟩ := Int.eq_ofNat_of_zero_le h0
    have hi := inside_yes (a : Int) a s.size
    have hc := cut_any R (a : Int) _ hH.rope (rises_of ⟨by omega, by omega, by omega⟩)
    rw [Int.toNat_natCast] at hc
    have h2' : (a : Int) ≤ (s.size : Int) := h1
    have Hi := Lib.hid hi
    clear hi
    go_wp2_with fail
    refine hc.mono ?_
    rintro e w3 ⟨R3, O, rfl, hC⟩
    obtain ⟨hR3, hO3, hap, hrb⟩ := hH.cut (a := s.extract 0 a) (b := s.extract a s.size) hC (by rw [hH.text]; exact take_ex s a) (by rw [hH.text]; exact drop_ex s a)
    clear hC hc
    go_wp2_with fail
    refine (Hi.out _ ⟨by omega, by omega, by omega⟩).mono ?_
    rintro e w4 ⟨rfl, rfl⟩
    have C1 := fun v (hv : Ext w4 v) => text_rope R3 v (hR3.on hv).rope
    have C2 := fun v (hv : Ext w4 v) => text_rope O v (hO3.on hv).rope
    have C3 := fun v (hv : Ext w4 v) => whole_any R3 v (hR3.on hv).rope
    have C4 := fun v (hv : Ext w4 v) => whole_any O v (hO3.on hv).rope
    rw [hR3.bs, hrb] at C1
    rw [hO3.bs] at C2
    rw [hrb] at C3
    have b1 : ((s.extract 0 a).toList == (s.extract 0 a).toList) = true := str_eq rfl
    have b2 : ((s.extract a s.size).toList == (s.extract a s.size).toList) = true := str_eq rfl
    have C1 := Lib.hid C1
    have C2 := Lib.hid C2
    have C3 := Lib.hid C3
    have C4 := Lib.hid C4
    have hs1 := hR3.size
    have hs2 := hO3.size
    rw [ByteArray.size_extract] at hs1 hs2
    go_wp2_with fail
    refine wp_region_ext_lit (by kernel_rfl) (by kernel_rfl) ?_
    repeat (go_big_quiet_step (first | (with_reducible exact Calls.ext_of (C1.out _ (Mod.of_below (ext_below _ _)))) | (with_reducible exact Calls.ext_of (C2.out _ (Mod.of_below (ext_below _ _)))) | (with_reducible exact Calls.ext_of (C3.out _ (Mod.of_below (ext_below _ _)))) | (with_reducible exact Calls.ext_of (C4.out _ (Mod.of_below (ext_below _ _))))))
    refine wpQuiet_nil ?_
    intro u4 y4
    have hR4 := hR3.on y4
    have hO4 := hO3.on y4
    have hj := join_any R3 O u4 hR4.rope hO4.rope hap (by omega)
    rw [hrb] at hj
    clear b1 b2 C1 C2 C3 C4
    go_wp2_with fail
    refine hj.mono ?_
    rintro e u5 ⟨rfl, R5, hJ⟩
    obtain ⟨hR5, hrb5, hO5⟩ := hR4.joined (s := s) hO4 hJ (by rw [← take_ex, ← drop_ex, List.take_append_drop])
    clear hj hJ
    go_wp2_with fail
    refine (none_len O _ hO5).mono ?_
    rintro e u6 ⟨rfl, rfl⟩
    go_wp2_with fail
    refine (none_text O _ hO5).mono ?_
    rintro e u7 ⟨rfl, y7⟩
    go_wp2_with fail
    go_ret3
    exact DoesPost.of (hrb5.trans hrb) (hR5.on y7) (by omega)
  · have hi := inside_no A A s.size
    have hc := cut_no R A _ hH.rope (rises_not (by omega))
    have Hi := Lib.hid hi
    have Hin := Lib.hid hin
    clear hi hin
    go_wp2_with fail
    refine hc.mono ?_
    rintro e w3 ⟨rfl, rfl⟩
    go_wp2_with fail
    refine (Hi.out _ (by have := Hin.out; omega)).mono ?_
    rintro e w4 ⟨rfl, rfl⟩
    go_wp2_with fail
    go_ret3
    exact ⟨R, s, rfl, hH, by omega⟩

set_option maxHeartbeats 1600000 in
set_option maxRecDepth 1000000 in
theorem does_join (w0 w : World) (D : Dice) (R : Rp) (s : ByteArray) (x : Dd) (hH : Held w0 D R s w) (hz : s.size + 2 * x.s.size ≤ 60000) (hk : lowN x.k 8 = 5) :
    Calls Try.prog 53 #[.pointer (some ⟨R.rb, 0, none⟩), .pointer (some ⟨D.d, 0, none⟩), .string s, .agg #[.int .i64 x.k, .int .i64 x.a, .int .i64 x.b, .string x.s]] w (DoesPost w0 D (s.size + 2 * x.s.size)) := by
  have hdl := hH.rope.dlt.1
  rw [hH.dice] at hdl
  obtain ⟨p, hp, L1⟩ := low_nat x.a (s.size + 3) ((s.size : Int) + 3) (by omega) (by omega) (by omega)
  obtain ⟨q, hq, L2⟩ := low_nat x.b (s.size + 3) ((s.size : Int) + 3) (by omega) (by omega) (by omega)
  have L3 := fun v => low_any x.k 8 v (by omega) (by omega)
  rw [show (8 : Int).toNat = 8 from rfl, hk] at L3
  have hs0 := hH.size
  have hflt := hH.rope.flt
  go_enter Try.func53, Try.ntmps53
  go_wp2_with fail
  obtain ⟨wa, hwa⟩ : ∃ wa, wa = w.alloc (.cells #[.int .i64 x.k, .int .i64 x.a, .int .i64 x.b, .string x.s] 61) := ⟨_, rfl⟩
  have hxa : Ext w wa := by rw [hwa]; exact (Mod.refl _ w).alloc _
  have hbx : Blk wa w.heap.size 61 #[.int .i64 x.k, .int .i64 x.a, .int .i64 x.b, .string x.s] := by rw [hwa]; exact Blk.new _ _ _
  rw [← hwa]
  clear hwa
  have hH := hH.on hxa
  have c0 : wa.cell? ⟨w.heap.size, 0, none⟩ = some (.int .i64 x.k) := hbx.cell 0
  have c1 : wa.cell? ⟨w.heap.size, 1, none⟩ = some (.int .i64 x.a) := hbx.cell 1
  have c2 : wa.cell? ⟨w.heap.size, 2, none⟩ = some (.int .i64 x.b) := hbx.cell 2
  have c3 : wa.cell? ⟨w.heap.size, 3, none⟩ = some (.string x.s) := hbx.cell 3
  have hbl := hbx.lt
  go_wp2_with (go_quiet (first | (with_reducible exact Calls.quiet_of_same (L1 _)) | (with_reducible exact Calls.quiet_of_same (L2 _))))
  refine (L3 _).mono ?_
  rintro e w1 ⟨rfl, rfl⟩
  generalize hA : (p : Int) - 1 = A
  generalize hB : (q : Int) - 1 = B
  replace hH := hH.drewN nq
  replace hxa := hxa.drewN nq
  clear L1 L2 L3 c0 c1 c2
  have hbx := hbx.drewN nq
  have c3 : (wa.drewN nq).cell? ⟨w.heap.size, 3, none⟩ = some (.string x.s) := hbx.cell 3
  go_wp2_with fail
  refine (rope_two D x.s x.s _ hH.diceOf (by omega)).mono ?_
  rintro e w3 ⟨O, rfl, hF⟩
  obtain ⟨hR3, hO3, hap⟩ := hH.made (s' := x.s ++ x.s) hF (by simp)
  have hbx3 := hbx.mod hF.mod (fun e => by omega)
  have hno : ∀ k ∈ O.all, w.heap.size < k := fun k hk => by
    have h1 := hF.new k hk
    have h2 := hbx.lt
    omega
  have hs1 := hR3.size
  have hs2 := hO3.size
  rw [ByteArray.size_append] at hs2
  have hj := join_any R O w3 hR3.rope hO3.rope hap (by omega)
  clear c3 hF
  go_wp2_with fail
  refine hj.mono ?_
  rintro e u5 ⟨rfl, R5, hJ⟩
  obtain ⟨hR5, hrb5, hO5⟩ := hR3.joined (s := s ++ x.s ++ x.s) hO3 hJ (by simp)
  have hbx5 := hbx3.mod hJ.mod (fun hf => by
    rcases hf with hf | hf
    · exact Nat.lt_irrefl _ (hflt _ hf)
    · exact Nat.lt_irrefl _ (hno _ hf))
  clear hj hJ
  go_wp2_with fail
  refine (none_text O _ hO5).mono ?_
  rintro e u7 ⟨rfl, y7⟩
  have c3 : u7.cell? ⟨w.heap.size, 3, none⟩ = some (.string x.s) := (hbx5.mod y7 (fun f => f)).cell 3
  have hl7 := (hbx5.mod y7 (fun f => f)).lt
  have hz7 : (s ++ x.s ++ x.s).size ≤ s.size + 2 * x.s.size := by rw [ByteArray.size_append, ByteArray.size_append]; omega
  go_wp2_with fail
  go_ret3
  exact DoesPost.of hrb5 (hR5.on y7) hz7

set_option maxHeartbeats 1600000 in
set_option maxRecDepth 1000000 in
theorem does_count (w0 w : World) (D : Dice) (R : Rp) (s : ByteArray) (x : Dd) (hH : Held w0 D R s w) (hz : s.size + 2 * x.s.size ≤ 60000) (hk : lowN x.k 8 = 6) :
    Calls Try.prog 53 #[.pointer (some ⟨R.rb, 0, none⟩), .pointer (some ⟨D.d, 0, none⟩), .string s, .agg #[.int .i64 x.k, .int .i64 x.a, .int .i64 x.b, .string x.s]] w (DoesPost w0 D (s.size + 2 * x.s.size)) := by
  obtain ⟨p, hp, L1⟩ := low_nat x.a (s.size + 3) ((s.size : Int) + 3) (by omega) (by omega) (by omega)
  obtain ⟨q, hq, L2⟩ := low_nat x.b (s.size + 3) ((s.size : Int) + 3) (by omega) (by omega) (by omega)
  have L3 := fun v => low_any x.k 8 v (by omega) (by omega)
  rw [show (8 : Int).toNat = 8 from rfl, hk] at L3
  have hs0 := hH.size
  have hflt := hH.rope.flt
  go_enter Try.func53, Try.ntmps53
  go_wp2_with fail
  obtain ⟨wa, hwa⟩ : ∃ wa, wa = w.alloc (.cells #[.int .i64 x.k, .int .i64 x.a, .int .i64 x.b, .string x.s] 61) := ⟨_, rfl⟩
  have hxa : Ext w wa := by rw [hwa]; exact (Mod.refl _ w).alloc _
  have hbx : Blk wa w.heap.size 61 #[.int .i64 x.k, .int .i64 x.a, .int .i64 x.b, .string x.s] := by rw [hwa]; exact Blk.new _ _ _
  rw [← hwa]
  clear hwa
  have hH := hH.on hxa
  have c0 : wa.cell? ⟨w.heap.size, 0, none⟩ = some (.int .i64 x.k) := hbx.cell 0
  have c1 : wa.cell? ⟨w.heap.size, 1, none⟩ = some (.int .i64 x.a) := hbx.cell 1
  have c2 : wa.cell? ⟨w.heap.size, 2, none⟩ = some (.int .i64 x.b) := hbx.cell 2
  have c3 : wa.cell? ⟨w.heap.size, 3, none⟩ = some (.string x.s) := hbx.cell 3
  have hbl := hbx.lt
  go_wp2_with (go_quiet (first | (with_reducible exact Calls.quiet_of_same (L1 _)) | (with_reducible exact Calls.quiet_of_same (L2 _))))
  refine (L3 _).mono ?_
  rintro e w1 ⟨rfl, rfl⟩
  generalize hA : (p : Int) - 1 = A
  generalize hB : (q : Int) - 1 = B
  replace hH := hH.drewN nq
  replace hxa := hxa.drewN nq
  clear L1 L2 L3 c0 c1 c2
  by_cases hin : 0 ≤ A ∧ A ≤ s.size
  · obtain ⟨h0, h1⟩ := hin
    obtain ⟨a, rfl⟩ := Int.eq_ofNat_of_zero_le h0
    have hi := fun v => inside_yes (a : Int) a s.size v ⟨by omega, by omega, by omega⟩
    have hc := count_yes R (a : Int) _ hH.rope (rises_of ⟨by omega, by omega, by omega⟩)
    rw [Int.toNat_natCast] at hc
    unfold CountPost at hc
    have e1 : R.text.take a = (s.extract 0 a).data.toList := by rw [hH.text]; exact take_ex s a
    rw [e1] at hc
    have h2' : (a : Int) ≤ (s.size : Int) := h1
    have ho := fun v => of_any (s.extract 0 a) v (by rw [ByteArray.size_extract]; omega)
    generalize (s.extract 0 a).data.toList = l at hc ho
    have Hi := Lib.hid hi
    have Ho := Lib.hid ho
    clear hi ho e1
    go_wp2_with fail
    refine hc.mono ?_
    rintro e w3 ⟨rfl, hx3⟩
    have hH3 := (hH.on hx3).on ((Mod.refl (fun _ => False) w3).alloc (.cells (#[Value.int IntKind.i64 ((byt (l) : Nat) : Int), Value.int IntKind.i64 ((brk (l) : Nat) : Int), Value.int IntKind.i64 ((run (l) : Nat) : Int), Value.int IntKind.i64 ((unt (l) : Nat) : Int)] : Array Value) 52))
    have hbt : Blk (w3.alloc (.cells (#[Value.int IntKind.i64 ((byt (l) : Nat) : Int), Value.int IntKind.i64 ((brk (l) : Nat) : Int), Value.int IntKind.i64 ((run (l) : Nat) : Int), Value.int IntKind.i64 ((unt (l) : Nat) : Int)] : Array Value) 52)) w3.heap.size 52 (#[Value.int IntKind.i64 ((byt (l) : Nat) : Int), Value.int IntKind.i64 ((brk (l) : Nat) : Int), Value.int IntKind.i64 ((run (l) : Nat) : Int), Value.int IntKind.i64 ((unt (l) : Nat) : Int)] : Array Value) := Blk.new _ _ _
    go_wp2_with fail
    refine (Hi.out _).mono ?_
    rintro e w4 ⟨rfl, rfl⟩
    obtain ⟨t0, t1, t2, t3, _⟩ := hbt.tal
    have htl := hbt.lt
    go_wp2_with fail
    refine wp_region_ext_lit (by kernel_rfl) (by kernel_rfl) ?_
    repeat (go_big_quiet_step (with_reducible exact Calls.ext_of (Ho.out _)))
    refine wpQuiet_nil ?_
    intro u4 y4
    go_wp2_with fail
    go_ret3
    exact ⟨R, s, rfl, hH3.on y4, by omega⟩
  · have hi := fun v => inside_no A A s.size v (by omega)
    have hc : Calls Try.prog 38 #[.pointer (some ⟨R.rb, 0, none⟩), .int .i64 A] (wa.drewN nq) fun e w' => e = .returned (.tuple #[.agg #[.int .i64 0, .int .i64 0, .int .i64 0, .int .i64 0], .int .i64 3]) ∧ Ext (wa.drewN nq) w' := count_no R A _ hH.rope (rises_not (by omega))
    have Hi := Lib.hid hi
    clear hi hin
    go_wp2_with fail
    refine hc.mono ?_
    rintro e w3 ⟨rfl, hx3⟩
    have hH3 := (hH.on hx3).on ((Mod.refl (fun _ => False) w3).alloc (.cells #[.int .i64 0, .int .i64 0, .int .i64 0, .int .i64 0] 52))
    have hbt : Blk (w3.alloc (.cells #[.int .i64 0, .int .i64 0, .int .i64 0, .int .i64 0] 52)) w3.heap.size 52 #[.int .i64 0, .int .i64 0, .int .i64 0, .int .i64 0] := Blk.new _ _ _
    go_wp2_with fail
    refine (Hi.out _).mono ?_
    rintro e w4 ⟨rfl, rfl⟩
    have t0 := hbt.cell 0
    have t1 := hbt.cell 1
    have t2 := hbt.cell 2
    have t3 := hbt.cell 3
    have htl := hbt.lt
    go_wp2_with (go_quiet (fail))
    go_ret3
    exact ⟨R, s, rfl, hH3.drewN _, by omega⟩

set_option maxHeartbeats 1600000 in
set_option maxRecDepth 1000000 in
theorem does_twin (w0 w : World) (D : Dice) (R : Rp) (s : ByteArray) (x : Dd) (hH : Held w0 D R s w) (hz : s.size + 2 * x.s.size ≤ 60000) (hk : lowN x.k 8 = 7) :
    Calls Try.prog 53 #[.pointer (some ⟨R.rb, 0, none⟩), .pointer (some ⟨D.d, 0, none⟩), .string s, .agg #[.int .i64 x.k, .int .i64 x.a, .int .i64 x.b, .string x.s]] w (DoesPost w0 D (s.size + 2 * x.s.size)) := by
  obtain ⟨p, hp, L1⟩ := low_nat x.a (s.size + 3) ((s.size : Int) + 3) (by omega) (by omega) (by omega)
  obtain ⟨q, hq, L2⟩ := low_nat x.b (s.size + 3) ((s.size : Int) + 3) (by omega) (by omega) (by omega)
  have L3 := fun v => low_any x.k 8 v (by omega) (by omega)
  rw [show (8 : Int).toNat = 8 from rfl, hk] at L3
  have hs0 := hH.size
  have hflt := hH.rope.flt
  go_enter Try.func53, Try.ntmps53
  go_wp2_with fail
  obtain ⟨wa, hwa⟩ : ∃ wa, wa = w.alloc (.cells #[.int .i64 x.k, .int .i64 x.a, .int .i64 x.b, .string x.s] 61) := ⟨_, rfl⟩
  have hxa : Ext w wa := by rw [hwa]; exact (Mod.refl _ w).alloc _
  have hbx : Blk wa w.heap.size 61 #[.int .i64 x.k, .int .i64 x.a, .int .i64 x.b, .string x.s] := by rw [hwa]; exact Blk.new _ _ _
  rw [← hwa]
  clear hwa
  have hH := hH.on hxa
  have c0 : wa.cell? ⟨w.heap.size, 0, none⟩ = some (.int .i64 x.k) := hbx.cell 0
  have c1 : wa.cell? ⟨w.heap.size, 1, none⟩ = some (.int .i64 x.a) := hbx.cell 1
  have c2 : wa.cell? ⟨w.heap.size, 2, none⟩ = some (.int .i64 x.b) := hbx.cell 2
  have c3 : wa.cell? ⟨w.heap.size, 3, none⟩ = some (.string x.s) := hbx.cell 3
  have hbl := hbx.lt
  go_wp2_with (go_quiet (first | (with_reducible exact Calls.quiet_of_same (L1 _)) | (with_reducible exact Calls.quiet_of_same (L2 _))))
  refine (L3 _).mono ?_
  rintro e w1 ⟨rfl, rfl⟩
  generalize hA : (p : Int) - 1 = A
  generalize hB : (q : Int) - 1 = B
  replace hH := hH.drewN nq
  replace hxa := hxa.drewN nq
  clear L1 L2 L3 c0 c1 c2
  have hU : ∃ u : Int, (∀ v, RopeAt v R → Calls Try.prog 40 #[.pointer (some ⟨R.rb, 0, none⟩), .int .i64 2, .int .i64 A] v fun e w' => e = .returned (.int .i64 u) ∧ Ext v w') ∧ (∀ v, Calls Try.prog 71 #[.string s, .int .i64 2, .int .i64 A] v fun e w' => e = .returned (.int .i64 u) ∧ Ext v w') := by
    by_cases h0 : 0 ≤ A
    · obtain ⟨a, rfl⟩ := Int.eq_ofNat_of_zero_le h0
      refine ⟨(upto 2 s.data.toList a : Nat), fun v hv => ?_, fun v => tallyUpto_any s 2 a v (by omega) (by omega) (by omega) (IsInt.small (by omega) (by omega))⟩
      have h := upto_yes R 2 a v hv (by omega) (by omega) (IsInt.small (by omega) (by omega))
      rw [hH.text] at h
      exact h
    · have hb : badUpto 2 A := by unfold badUpto; omega
      refine ⟨-1, fun v _ => (upto_no _ 2 A v hb).mono ?_, fun v => (tallyUpto_no s 2 A v hb).mono ?_⟩
      · rintro e w' ⟨h1, rfl⟩; exact ⟨h1, Mod.refl _ _⟩
      · rintro e w' ⟨h1, rfl⟩; exact ⟨h1, Mod.refl _ _⟩
  obtain ⟨u, U1, U2⟩ := hU
  have U1 := Lib.hid U1
  have U2 := Lib.hid U2
  go_wp2_with fail
  refine (twin_any R D _ hH.rope hH.diceOf).mono ?_
  rintro e w3 ⟨T, rfl, hF⟩
  obtain ⟨hR3, hT3, _⟩ := hH.made (s' := s) hF hH.text
  clear hF
  go_wp2_with fail
  refine (twin_none R _).mono ?_
  rintro e w4 ⟨rfl, rfl⟩
  go_wp2_with fail
  refine (U1.out _ hR3.rope).mono ?_
  rintro e w5 ⟨rfl, y5⟩
  go_wp2_with fail
  refine (U2.out _).mono ?_
  rintro e w6 ⟨rfl, y6⟩
  go_wp2_with fail
  go_ret3
  exact ⟨T, s, rfl, (hT3.on y5).on y6, by omega⟩

/-- Each deed. -/
theorem does_any (w0 w : World) (D : Dice) (R : Rp) (s : ByteArray) (x : Dd) (hH : Held w0 D R s w) (hz : s.size + 2 * x.s.size ≤ 60000) :
    Calls Try.prog 53 #[.pointer (some ⟨R.rb, 0, none⟩), .pointer (some ⟨D.d, 0, none⟩), .string s, .agg #[.int .i64 x.k, .int .i64 x.a, .int .i64 x.b, .string x.s]] w (DoesPost w0 D (s.size + 2 * x.s.size)) := by
  have h8 := lowN_lt x.k 8 (by omega)
  have hk : lowN x.k 8 = 0 ∨ lowN x.k 8 = 1 ∨ lowN x.k 8 = 2 ∨ lowN x.k 8 = 3 ∨ lowN x.k 8 = 4 ∨ lowN x.k 8 = 5 ∨ lowN x.k 8 = 6 ∨ lowN x.k 8 = 7 := by omega
  rcases hk with h | h | h | h | h | h | h | h
  · exact does_in w0 w D R s x hH hz _ h (.inl rfl)
  · exact does_in w0 w D R s x hH hz _ h (.inr rfl)
  · exact does_out w0 w D R s x hH hz h
  · exact does_cut w0 w D R s x hH hz h
  · exact does_two w0 w D R s x hH hz h
  · exact does_join w0 w D R s x hH hz h
  · exact does_count w0 w D R s x hH hz h
  · exact does_twin w0 w D R s x hH hz h

end Go.Proofs.Ytbcjlbapgidhiaa

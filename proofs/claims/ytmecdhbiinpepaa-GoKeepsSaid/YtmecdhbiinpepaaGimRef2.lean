/- What the reference gimletref2 computes of a text: Of, By, Upto. Conditions: a text of at most 1000000 bytes. -/
import Derived.Test.YtmecdhbiinpepaaGimRef4
namespace Go.Proofs.Ytmecdhbiinpepaa
open Go.RowKit Go.Gim

theorem refTallySize : (Try.prog.info? 100).map (·.size) = some 4 := by kernel_rfl

theorem tally_step (l : List UInt8) (c : UInt8) : byt (l ++ [c]) = byt l + 1 ∧ brk (l ++ [c]) = brk l + (if c.toNat = 10 then 1 else 0) ∧ run (l ++ [c]) = run l + (if c.toNat < 128 ∨ 191 < c.toNat then 1 else 0) ∧
    unt (l ++ [c]) = unt l + (if c.toNat < 128 then 1 else if 240 ≤ c.toNat then 2 else if 191 < c.toNat then 1 else 0) := by
  have h := tally_one c
  unfold tally at h
  simp only [Array.mk.injEq, List.cons.injEq, Value.int.injEq, true_and, and_true] at h
  obtain ⟨h1, h2, h3, h4⟩ := h
  rw [byt_append, brk_append, run_append, unt_append]
  refine ⟨rfl, ?_, ?_, ?_⟩
  · split at h2 <;> simp_all
    all_goals omega
  · split at h3 <;> simp_all
    all_goals omega
  · by_cases k1 : c.toNat < 128
    · rw [if_pos k1] at h4 ⊢; omega
    · rw [if_neg k1] at h4 ⊢
      by_cases k2 : 240 ≤ c.toNat
      · rw [if_pos k2] at h4 ⊢; omega
      · rw [if_neg k2] at h4 ⊢
        by_cases k3 : 191 < c.toNat
        · rw [if_pos k3] at h4 ⊢; omega
        · rw [if_neg k3] at h4 ⊢; omega

set_option maxHeartbeats 1600000 in
set_option maxRecDepth 1000000 in
theorem ref2Of_any (s : ByteArray) (w : World) (hs : s.size ≤ 1000000) : Calls Try.prog 74 #[.string s] w fun e w' => e = .returned (.agg (#[Value.int IntKind.i64 ((byt (s.data.toList) : Nat) : Int), Value.int IntKind.i64 ((brk (s.data.toList) : Nat) : Int), Value.int IntKind.i64 ((run (s.data.toList) : Nat) : Int), Value.int IntKind.i64 ((unt (s.data.toList) : Nat) : Int)] : Array Value)) ∧ Ext w w' := by
  go_enter Try.func74, Try.ntmps74
  go_wp2_with fail
  go_loopw [4] (fun i wr => ∃ k : Nat, k ≤ s.size ∧ i = .int .i64 k ∧ Blk wr (w.heap.size + 1) 100 (#[Value.int IntKind.i64 ((byt (s.data.toList.take k) : Nat) : Int), Value.int IntKind.i64 ((brk (s.data.toList.take k) : Nat) : Int), Value.int IntKind.i64 ((run (s.data.toList.take k) : Nat) : Int), Value.int IntKind.i64 ((unt (s.data.toList.take k) : Nat) : Int)] : Array Value) ∧ Blk wr w.heap.size 100 (#[Value.int IntKind.i64 ((byt ([]) : Nat) : Int), Value.int IntKind.i64 ((brk ([]) : Nat) : Int), Value.int IntKind.i64 ((run ([]) : Nat) : Int), Value.int IntKind.i64 ((unt ([]) : Nat) : Int)] : Array Value) ∧ Ext w wr) (fun i _ => s.size - (intOf i).toNat)
  case atStart => exact ⟨0, by omega, rfl, Blk.new1 _ _ _ _, (Blk.new _ _ _).alloc _, ((Mod.refl _ w).alloc _).alloc _⟩
  case round =>
    obtain ⟨k, hk, rfl, hb, hr, hx⟩ := hrel
    obtain ⟨c0, c1, c2, c3, f0, f1, f2, f3⟩ := hb.tal
    by_cases hlt : k < s.size
    · have hlt' : (k : Int) < (s.size : Int) := by omega
      have hk0 : (0 : Int) ≤ (k : Int) := by omega
      have ht : s.data.toList.take (k + 1) = s.data.toList.take k ++ [s[k]] := by rw [← toList_get s k hlt, List.take_append_getElem]
      have hts := tally_step (s.data.toList.take k) s[k]
      have g1 := brk_le (s.data.toList.take k)
      have g2 := run_le (s.data.toList.take k)
      have g3 := unt_le (s.data.toList.take k)
      have g4 : byt (s.data.toList.take k) = (s.data.toList.take k).length := rfl
      have g5 := List.length_take_le k s.data.toList
      have q0 : byt (s.data.toList.take k) ≤ 1000000 := by omega
      have q1 : brk (s.data.toList.take k) ≤ 1000000 := by omega
      have q2 : run (s.data.toList.take k) ≤ 1000000 := by omega
      have q3 : unt (s.data.toList.take k) ≤ 2000000 := by omega
      have Ht := Lib.hid ht
      have Hts := Lib.hid hts
      clear ht hts g1 g2 g3 g4 g5
      by_cases h1 : s[k].toNat < 128
      · have hld : decide (s[k].toNat < 128 ∨ 191 < s[k].toNat) = true := by simp; omega
        have Hld := Lib.hid hld
        have b2 : ¬ ((240 : Int) ≤ (s[k].toNat : Int)) := by omega
        clear hld
        by_cases h10 : s[k].toNat = 10
        · have b1 : ((s[k].toNat : Int) == 10) = true := by simp; omega
          have h10' : s[k].toNat ≤ 10 ∧ 10 ≤ s[k].toNat := by omega
          clear h10
          obtain ⟨t1, t2, t3, t4⟩ := Hts.out
          have hk2 : byt (s.data.toList.take (k + 1)) = byt (s.data.toList.take k) + 1 ∧ brk (s.data.toList.take (k + 1)) = brk (s.data.toList.take k) + 1 ∧ run (s.data.toList.take (k + 1)) = run (s.data.toList.take k) + 1 ∧ unt (s.data.toList.take (k + 1)) = unt (s.data.toList.take k) + 1 := by
            rw [Ht.out]
            refine ⟨t1, ?_, ?_, ?_⟩
            · rw [t2]; first | rw [if_pos (by omega)] | rw [if_neg (by omega)]
            · rw [t3]; first | rw [if_pos (by omega)] | rw [if_neg (by omega)]
            · rw [t4]; repeat' split
              all_goals omega
          have Hk2 := Lib.hid hk2
          clear t1 t2 t3 t4 hk2
          go_wp2_with fail
          refine (refLead_any s[k] _).mono ?_
          rintro e w2 ⟨rfl, rfl⟩
          rw [Hld.out]
          go_wp2_with fail
          go_roundw
          case rel =>
            refine ⟨k + 1, by omega, by go_num, ?_, ?_, ?_⟩
            · rw [Hk2.out.1, Hk2.out.2.1, Hk2.out.2.2.1, Hk2.out.2.2.2]
              exact ((((hb.set 0 _).set 1 _).set 2 _).set 3 _)
            · exact Blk.mod hr (S := (· = w.heap.size + 1)) (by repeat (first | exact Mod.refl _ _ | refine Mod.setCell ?_ (fun _ => by rfl) _)) (fun e => by omega)
            · repeat (first | exact hx | refine Mod.setCell ?_ (by simp) _)
          case measure => simp [intOf]; omega
        · have b1 : ((s[k].toNat : Int) == 10) = false := by simp; omega
          obtain ⟨t1, t2, t3, t4⟩ := Hts.out
          have hk2 : byt (s.data.toList.take (k + 1)) = byt (s.data.toList.take k) + 1 ∧ brk (s.data.toList.take (k + 1)) = brk (s.data.toList.take k) + 0 ∧ run (s.data.toList.take (k + 1)) = run (s.data.toList.take k) + 1 ∧ unt (s.data.toList.take (k + 1)) = unt (s.data.toList.take k) + 1 := by
            rw [Ht.out]
            refine ⟨t1, ?_, ?_, ?_⟩
            · rw [t2]; first | rw [if_pos (by omega)] | rw [if_neg (by omega)]
            · rw [t3]; first | rw [if_pos (by omega)] | rw [if_neg (by omega)]
            · rw [t4]; repeat' split
              all_goals omega
          have Hk2 := Lib.hid hk2
          clear t1 t2 t3 t4 hk2
          go_wp2_with fail
          refine (refLead_any s[k] _).mono ?_
          rintro e w2 ⟨rfl, rfl⟩
          rw [Hld.out]
          go_wp2_with fail
          go_roundw
          case rel =>
            refine ⟨k + 1, by omega, by go_num, ?_, ?_, ?_⟩
            · rw [Hk2.out.1, Hk2.out.2.1, Hk2.out.2.2.1, Hk2.out.2.2.2]
              exact (((hb.set 0 _).set 2 _).set 3 _)
            · exact Blk.mod hr (S := (· = w.heap.size + 1)) (by repeat (first | exact Mod.refl _ _ | refine Mod.setCell ?_ (fun _ => by rfl) _)) (fun e => by omega)
            · repeat (first | exact hx | refine Mod.setCell ?_ (by simp) _)
          case measure => simp [intOf]; omega
      · have b1 : ((s[k].toNat : Int) == 10) = false := by simp; omega
        by_cases h2 : 191 < s[k].toNat
        · have hld : decide (s[k].toNat < 128 ∨ 191 < s[k].toNat) = true := by simp; omega
          have Hld := Lib.hid hld
          clear hld
          by_cases h3 : 240 ≤ s[k].toNat
          · have b2 : (240 : Int) ≤ (s[k].toNat : Int) := by omega
            obtain ⟨t1, t2, t3, t4⟩ := Hts.out
            have hk2 : byt (s.data.toList.take (k + 1)) = byt (s.data.toList.take k) + 1 ∧ brk (s.data.toList.take (k + 1)) = brk (s.data.toList.take k) + 0 ∧ run (s.data.toList.take (k + 1)) = run (s.data.toList.take k) + 1 ∧ unt (s.data.toList.take (k + 1)) = unt (s.data.toList.take k) + 2 := by
              rw [Ht.out]
              refine ⟨t1, ?_, ?_, ?_⟩
              · rw [t2]; first | rw [if_pos (by omega)] | rw [if_neg (by omega)]
              · rw [t3]; first | rw [if_pos (by omega)] | rw [if_neg (by omega)]
              · rw [t4]; repeat' split
                all_goals omega
            have Hk2 := Lib.hid hk2
            clear t1 t2 t3 t4 hk2
            go_wp2_with fail
            refine (refLead_any s[k] _).mono ?_
            rintro e w2 ⟨rfl, rfl⟩
            rw [Hld.out]
            go_wp2_with fail
            go_roundw
            case rel =>
              refine ⟨k + 1, by omega, by go_num, ?_, ?_, ?_⟩
              · rw [Hk2.out.1, Hk2.out.2.1, Hk2.out.2.2.1, Hk2.out.2.2.2]
                exact ((((hb.set 0 _).set 2 _).set 3 _).set 3 _)
              · exact Blk.mod hr (S := (· = w.heap.size + 1)) (by repeat (first | exact Mod.refl _ _ | refine Mod.setCell ?_ (fun _ => by rfl) _)) (fun e => by omega)
              · repeat (first | exact hx | refine Mod.setCell ?_ (by simp) _)
            case measure => simp [intOf]; omega
          · have b2 : ¬ ((240 : Int) ≤ (s[k].toNat : Int)) := by omega
            obtain ⟨t1, t2, t3, t4⟩ := Hts.out
            have hk2 : byt (s.data.toList.take (k + 1)) = byt (s.data.toList.take k) + 1 ∧ brk (s.data.toList.take (k + 1)) = brk (s.data.toList.take k) + 0 ∧ run (s.data.toList.take (k + 1)) = run (s.data.toList.take k) + 1 ∧ unt (s.data.toList.take (k + 1)) = unt (s.data.toList.take k) + 1 := by
              rw [Ht.out]
              refine ⟨t1, ?_, ?_, ?_⟩
              · rw [t2]; first | rw [if_pos (by omega)] | rw [if_neg (by omega)]
              · rw [t3]; first | rw [if_pos (by omega)] | rw [if_neg (by omega)]
              · rw [t4]; repeat' split
                all_goals omega
            have Hk2 := Lib.hid hk2
            clear t1 t2 t3 t4 hk2
            go_wp2_with fail
            refine (refLead_any s[k] _).mono ?_
            rintro e w2 ⟨rfl, rfl⟩
            rw [Hld.out]
            go_wp2_with fail
            go_roundw
            case rel =>
              refine ⟨k + 1, by omega, by go_num, ?_, ?_, ?_⟩
              · rw [Hk2.out.1, Hk2.out.2.1, Hk2.out.2.2.1, Hk2.out.2.2.2]
                exact (((hb.set 0 _).set 2 _).set 3 _)
              · exact Blk.mod hr (S := (· = w.heap.size + 1)) (by repeat (first | exact Mod.refl _ _ | refine Mod.setCell ?_ (fun _ => by rfl) _)) (fun e => by omega)
              · repeat (first | exact hx | refine Mod.setCell ?_ (by simp) _)
            case measure => simp [intOf]; omega
        · have hld : decide (s[k].toNat < 128 ∨ 191 < s[k].toNat) = false := by simp; omega
          have Hld := Lib.hid hld
          have b2 : ¬ ((240 : Int) ≤ (s[k].toNat : Int)) := by omega
          clear hld
          obtain ⟨t1, t2, t3, t4⟩ := Hts.out
          have hk2 : byt (s.data.toList.take (k + 1)) = byt (s.data.toList.take k) + 1 ∧ brk (s.data.toList.take (k + 1)) = brk (s.data.toList.take k) + 0 ∧ run (s.data.toList.take (k + 1)) = run (s.data.toList.take k) + 0 ∧ unt (s.data.toList.take (k + 1)) = unt (s.data.toList.take k) + 0 := by
            rw [Ht.out]
            refine ⟨t1, ?_, ?_, ?_⟩
            · rw [t2]; first | rw [if_pos (by omega)] | rw [if_neg (by omega)]
            · rw [t3]; first | rw [if_pos (by omega)] | rw [if_neg (by omega)]
            · rw [t4]; repeat' split
              all_goals omega
          have Hk2 := Lib.hid hk2
          clear t1 t2 t3 t4 hk2
          go_wp2_with fail
          refine (refLead_any s[k] _).mono ?_
          rintro e w2 ⟨rfl, rfl⟩
          rw [Hld.out]
          go_wp2_with fail
          go_roundw
          case rel =>
            refine ⟨k + 1, by omega, by go_num, ?_, ?_, ?_⟩
            · rw [Hk2.out.1, Hk2.out.2.1, Hk2.out.2.2.1, Hk2.out.2.2.2]
              exact (hb.set 0 _)
            · exact Blk.mod hr (S := (· = w.heap.size + 1)) (by repeat (first | exact Mod.refl _ _ | refine Mod.setCell ?_ (fun _ => by rfl) _)) (fun e => by omega)
            · repeat (first | exact hx | refine Mod.setCell ?_ (by simp) _)
          case measure => simp [intOf]; omega
    · have hlt' : ¬ ((k : Int) < (s.size : Int)) := by omega
      obtain ⟨d0, d1, d2, d3, g0, g1, g2, g3⟩ := hr.tal
      go_wp2_with fail
      have hres := ((((hr.set 0 (.int .i64 (byt (s.data.toList.take k) : Nat))).set 1 (.int .i64 (brk (s.data.toList.take k) : Nat))).set 2 (.int .i64 (run (s.data.toList.take k) : Nat))).set 3 (.int .i64 (unt (s.data.toList.take k) : Nat)))
      refine bodyPost_ret (results_cell_row rfl _ _ w.heap.size _ (#[Value.int IntKind.i64 ((byt (s.data.toList.take k) : Nat) : Int), Value.int IntKind.i64 ((brk (s.data.toList.take k) : Nat) : Int), Value.int IntKind.i64 ((run (s.data.toList.take k) : Nat) : Int), Value.int IntKind.i64 ((unt (s.data.toList.take k) : Nat) : Int)] : Array Value) (0, 0) _ rfl hres Try.underlying100 rfl refTallySize) rfl ?_
      have e : s.data.toList.take k = s.data.toList := List.take_of_length_le (by rw [toList_length]; omega)
      rw [e]
      refine ⟨rfl, ?_⟩
      exact (((hx.setCell (by simp) _).setCell (by simp) _).setCell (by simp) _).setCell (by simp) _


set_option maxHeartbeats 800000 in
set_option maxRecDepth 1000000 in
theorem rby_0 (a b c d : Int) (w : World) : Calls Try.prog 75 #[.agg #[.int .i64 a, .int .i64 b, .int .i64 c, .int .i64 d], .int .i64 0] w fun e w' => e = .returned (.int .i64 a) ∧ Ext w w' := by
  go_enter Try.func75, Try.ntmps75
  go_wp2_with fail
  go_ret
  exact ⟨rfl, (Mod.refl _ w).alloc _⟩
set_option maxHeartbeats 800000 in
set_option maxRecDepth 1000000 in
theorem rby_1 (a b c d : Int) (w : World) : Calls Try.prog 75 #[.agg #[.int .i64 a, .int .i64 b, .int .i64 c, .int .i64 d], .int .i64 1] w fun e w' => e = .returned (.int .i64 c) ∧ Ext w w' := by
  go_enter Try.func75, Try.ntmps75
  go_wp2_with fail
  go_ret
  exact ⟨rfl, (Mod.refl _ w).alloc _⟩
set_option maxHeartbeats 800000 in
set_option maxRecDepth 1000000 in
theorem rby_2 (a b c d : Int) (w : World) : Calls Try.prog 75 #[.agg #[.int .i64 a, .int .i64 b, .int .i64 c, .int .i64 d], .int .i64 2] w fun e w' => e = .returned (.int .i64 d) ∧ Ext w w' := by
  go_enter Try.func75, Try.ntmps75
  go_wp2_with fail
  go_ret
  exact ⟨rfl, (Mod.refl _ w).alloc _⟩
/-- By, by one of the three ways of columns. -/
theorem rby_any (l : List UInt8) (way : Int) (w : World) (h : wayB way = true) : Calls Try.prog 75 #[.agg (#[Value.int IntKind.i64 ((byt (l) : Nat) : Int), Value.int IntKind.i64 ((brk (l) : Nat) : Int), Value.int IntKind.i64 ((run (l) : Nat) : Int), Value.int IntKind.i64 ((unt (l) : Nat) : Int)] : Array Value), .int .i64 way] w fun e w' => e = .returned (.int .i64 (byW way l : Nat)) ∧ Ext w w' := by
  obtain ⟨h0, h2⟩ := way_out h
  unfold byW
  by_cases k0 : way = 0
  · subst k0; exact rby_0 _ _ _ _ w
  by_cases k1 : way = 1
  · subst k1; exact rby_1 _ _ _ _ w
  obtain rfl : way = 2 := by omega
  exact rby_2 _ _ _ _ w

set_option maxHeartbeats 1600000 in
set_option maxRecDepth 1000000 in
theorem ref2Upto_any (s : ByteArray) (way : Int) (n : Nat) (w : World) (h : wayB way = true) (hs : s.size ≤ 100000) (hni : IsInt n) : Calls Try.prog 78 #[.string s, .int .i64 way, .int .i64 n] w fun e w' => e = .returned (.int .i64 (upto way s.data.toList n : Nat)) ∧ Ext w w' := by
  have hn0 : (0 : Int) ≤ (n : Int) := Int.natCast_nonneg _
  have hn1 : decide ((n : Int) < 0) = false := by simp
  obtain ⟨hw0, hw2⟩ := way_out h
  have hw0' : decide (way < 0) = false := by simpa using hw0
  have hw3' : ¬ (3 : Int) < way := by omega
  have Hway := Lib.hid h
  clear h
  generalize hL : s.data.toList = L
  have HL := Lib.hid hL
  clear hL
  generalize hU : upto way L n = U
  have HU := Lib.hid hU
  clear hU
  go_enter Try.func78, Try.ntmps78
  go_wp2_with fail
  go_loopw [7, 8] (fun p q wr => ∃ k m : Nat, k ≤ s.size ∧ m ≤ 200000 ∧ q = .int .i64 k ∧ p = .int .i64 m ∧ Hid (U = k + upto way (L.drop k) (n - m) ∧ m ≤ n ∧ m = byW way (L.take k) ∧ Ext w wr)) (fun _ q _ => s.size - (intOf q).toNat)
  case atStart => exact ⟨0, 0, by omega, by omega, rfl, rfl, Lib.hid ⟨by rw [← HU.out]; simp, by omega, by simp [byW_nil], Mod.refl _ _⟩⟩
  case round =>
    obtain ⟨k, m, hk, hm, rfl, rfl, HR⟩ := hrel
    by_cases hlt : k < s.size
    · have hlt' : (k : Int) < (s.size : Int) := by omega
      have hk0 : (0 : Int) ≤ (k : Int) := by omega
      have hdr : L.drop k = s[k] :: L.drop (k + 1) := by
        rw [← HL.out, List.drop_eq_getElem_cons (by simpa using hlt)]; rfl
      have htk : L.take (k + 1) = L.take k ++ [s[k]] := by rw [← HL.out, ← toList_get s k hlt, List.take_append_getElem]
      have hex : (s.extract k (k + 1)).data.toList = [s[k]] := by
        rw [extract_bs, bs_toList, ← toList_get s k hlt, List.drop_eq_getElem_cons (by simpa using hlt), show k + 1 - k = 1 from by omega]; simp
      have hB2 : byW way [s[k]] ≤ 2 := by have := byW_le way [s[k]]; simpa using this
      have hof := fun v => ref2Of_any (s.extract k (k + 1)) v (by simp; omega)
      rw [hex] at hof
      have hmb := byW_le way (L.take (k + 1))
      have hml := List.length_take_le (k + 1) L
      have Hof := Lib.hid hof
      have Hdr := Lib.hid hdr
      have Htk := Lib.hid htk
      have hmb2 : byW way (L.take (k + 1)) ≤ 200000 := by
        have : (L.take (k + 1)).length ≤ s.size := by rw [List.length_take, ← HL.out, toList_length]; omega
        omega
      clear hdr htk hex hof hmb hml
      go_wp2_with fail
      refine (Hof.out _).mono ?_
      rintro e w1 ⟨rfl, hx1⟩
      go_wp2_with fail
      refine (rby_any [s[k]] way _ Hway.out).mono ?_
      rintro e w2 ⟨rfl, hx2⟩
      have hmm : m + byW way [s[k]] = byW way (L.take (k + 1)) := by rw [Htk.out, byW_append, ← HR.out.2.2.1]
      have Hmm := Lib.hid hmm
      have hmm2 : m + byW way [s[k]] ≤ 200000 := by omega
      clear hmm hmb2
      generalize hB : byW way [s[k]] = B at *
      have HB := Lib.hid hB
      clear hB
      have hmn := HR.out.2.1
      by_cases hgt : (n : Int) < (m : Int) + (B : Int)
      · go_wp2_with fail
        go_ret
        refine ⟨ret_int ?_, (HR.out.2.2.2.ext_trans hx1).ext_trans hx2⟩
        rw [HR.out.1, Hdr.out, upto, HB.out, if_pos (by omega)]; simp
      · go_wp2_with fail
        go_roundw
        case rel =>
          refine ⟨k + 1, m + B, by omega, by omega, by go_num, by go_num, Lib.hid ⟨?_, by omega, Hmm.out, (HR.out.2.2.2.ext_trans hx1).ext_trans hx2⟩⟩
          rw [HR.out.1, Hdr.out, upto, HB.out, if_neg (by omega), Nat.sub_sub]; omega
        case measure => simp [intOf]; omega
    · have hlt' : ¬ (k : Int) < (s.size : Int) := by omega
      go_wp2_with fail
      go_ret
      refine ⟨ret_int ?_, HR.out.2.2.2⟩
      rw [HR.out.1, List.drop_of_length_le (by rw [← HL.out, toList_length]; omega)]
      simp only [upto]; omega

end Go.Proofs.Ytmecdhbiinpepaa

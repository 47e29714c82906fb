/- What the reference gimletref2 computes of a text: Of, By, Upto. Conditions: a text of at most 1000000 bytes. -/
import Derived.Test.YtmecdhbiinpepaaDoorGimRef4
namespace Go.Proofs.YtmecdhbiinpepaaDoor
open Go.RowKit Go.Gim

theorem refTallySize : (Tryd.prog.info? 93).map (·.size) = some 4 := by kernel_rfl

theorem tally_step (l : List UInt8) (c : UInt8) : byt (l ++ [c]) = byt l + 1 ∧ brk (l ++ [c]) = brk l + (if c.toNat = 10 then 1 else 0) ∧ run (l ++ [c]) = run l + (if c.toNat < 128 ∨ 191 < c.toNat then 1 else 0) ∧
    unt (l ++ [c]) = unt l + (if c.toNat < 128 then 1 else if 240 ≤ c.toNat then 2 else if 191 < c.toNat then 1 else 0) := by
  have h := tally_one c
  unfold tally at h
  simp only [Array.mk.injEq, List.cons.injEq, Value.int.injEq, true_and, and_true] at h
  obtain ⟨h1, h2, h3, h4⟩ := h
  rw [byt_append, brk_append, run_append, unt_append]
  refine ⟨rfl, ?_, ?_, ?_⟩
  · split at h2 <;> simp_all
    all_goals omega
  · split at h3 <;> simp_all
    all_goals omega
  · by_cases k1 : c.toNat < 128
    · rw [if_pos k1] at h4 ⊢; omega
    · rw [if_neg k1] at h4 ⊢
      by_cases k2 : 240 ≤ c.toNat
      · rw [if_pos k2] at h4 ⊢; omega
      · rw [if_neg k2] at h4 ⊢
        by_cases k3 : 191 < c.toNat
        · rw [if_pos k3] at h4 ⊢; omega
        · rw [if_neg k3] at h4 ⊢; omega

set_option maxHeartbeats 1600000 in
set_option maxRecDepth 1000000 in
theorem ref2Of_any (s : ByteArray) (w : World) (hs : s.size ≤ 1000000) : Calls Tryd.prog 60 #[.string s] w fun e w' => e = .returned (.agg (#[Value.int IntKind.i64 ((byt (s.data.toList) : Nat) : Int), Value.int IntKind.i64 ((brk (s.data.toList) : Nat) : Int), Value.int IntKind.i64 ((run (s.data.toList) : Nat) : Int), Value.int IntKind.i64 ((unt (s.data.toList) : Nat) : Int)] : Array Value)) ∧ Ext w w' := by
  go_enter Tryd.func60, Tryd.ntmps60
  go_wp2_with fail
  go_loopw [4] (fun i wr => ∃ k : Nat, k ≤ s.size ∧ i = .int .i64 k ∧ Blk wr (w.heap.size + 1) 93 (#[Value.int IntKind.i64 ((byt (s.data.toList.take k) : Nat) : Int), Value.int IntKind.i64 ((brk (s.data.toList.take k) : Nat) : Int), Value.int IntKind.i64 ((run (s.data.toList.take k) : Nat) : Int), Value.int IntKind.i64 ((unt (s.data.toList.take k) : Nat) : Int)] : Array Value) ∧ Blk wr w.heap.size 93 (#[Value.int IntKind.i64 ((byt ([]) : Nat) : Int), Value.int IntKind.i64 ((brk ([]) : Nat) : Int), Value.int IntKind.i64 ((run ([]) : Nat) : Int), Value.int IntKind.i64 ((unt ([]) : Nat) : Int)] : Array Value) ∧ Ext w wr) (fun i _ => s.size - (intOf i).toNat)
  case atStart => exact ⟨0, by omega, rfl, Blk.new1 _ _ _ _, (Blk.new _ _ _).alloc _, ((Mod.refl _ w).alloc _).alloc _⟩
  case round =>
    obtain ⟨k, hk, rfl, hb, hr, hx⟩ := hrel
    obtain ⟨c0, c1, c2, c3, f0, f1, f2, f3⟩ := hb.tal
    by_cases hlt : k < s.size
    · have hlt' : (k : Int) < (s.size : Int) := by omega
      have hk0 : (0 : Int) ≤ (k : Int) := by omega
      have ht : s.data.toList.take (k + 1) = s.data.toList.take k ++ [s[k]] := by rw [← toList_get s k hlt, List.take_append_getElem]
      have hts := tally_step (s.data.toList.take k) s[k]
      have g1 := brk_le (s.data.toList.take k)
      have g2 := run_le (s.data.toList.take k)
      have g3 := unt_le (s.data.toList.take k)
      have g4 : byt (s.data.toList.take k) = (s.data.toList.take k).length := rfl
      have g5 := List.length_take_le k s.data.toList
      have q0 : byt (s.data.toList.take k) ≤ 1000000 := by omega
      have q1 : brk (s.data.toList.take k) ≤ 1000000 := by omega
      have q2 : run (s.data.toList.take k) ≤ 1000000 := by omega
      have q3 : unt (s.data.toList.take k) ≤ 2000000 := by omega
      have Ht := Lib.hid ht
      have Hts := Lib.hid hts
      clear ht hts g1 g2 g3 g4 g5
      by_cases h1 : s[k].toNat < 128
      · have hld : decide (s[k].toNat < 128 ∨ 191 < s[k].toNat) = true := by simp; omega
        have Hld := Lib.hid hld
        have b2 : ¬ ((240 : Int) ≤ (s[k].toNat : Int)) := by omega
        clear hld
        by_cases h10 : s[k].toNat = 10
        · have b1 : ((s[k].toNat : Int) == 10) = true := by simp; omega
          have h10' : s[k].toNat ≤ 10 ∧ 10 ≤ s[k].toNat := by omega
          clear h10
          obtain ⟨t1, t2, t3, t4⟩ := Hts.out
          have hk2 : byt (s.data.toList.take (k + 1)) = byt (s.data.toList.take k) + 1 ∧ brk (s.data.toList.take (k + 1)) = brk (s.data.toList.take k) + 1 ∧ run (s.data.toList.take (k + 1)) = run (s.data.toList.take k) + 1 ∧ unt (s.data.toList.take (k + 1)) = unt (s.data.toList.take k) + 1 := by
            rw [Ht.out]
            refine ⟨t1, ?_, ?_, ?_⟩
            · rw [t2]; first | rw [if_pos (by omega)] | rw [if_neg (by omega)]
            · rw [t3]; first | rw [if_pos (by omega)] | rw [if_neg (by omega)]
            · rw [t4]; repeat' split
              all_goals omega
          have Hk2 := Lib.hid hk2
          clear t1 t2 t3 t4 hk2
          go_wp2_with fail
          refine (refLead_any s[k] _).mono ?_
          rintro e w2 ⟨rfl, rfl⟩
          rw [Hld.out]
          go_wp2_with fail
          go_roundw
          case rel =>
            refine ⟨k + 1, by omega, by go_num, ?_, ?_, ?_⟩
            · rw [Hk2.out.1, Hk2.out.2.1, Hk2.out.2.2.1, Hk2.out.2.2.2]
              exact ((((hb.set 0 _).set 1 _).set 2 _).set 3 _)
            · exact Blk.mod hr (S := (· = w.heap.size + 1)) (by repeat (first | exact Mod.refl _ _ | refine Mod.setCell ?_ (fun _ => by rfl) _)) (fun e => by omega)
            · repeat (first | exact hx | refine Mod.setCell ?_ (by simp) _)
          case measure => simp [intOf]; omega
        · have b1 : ((s[k].toNat : Int) == 10) = false := by simp; omega
          obtain ⟨t1, t2, t3, t4⟩ := Hts.out
          have hk2 : byt (s.data.toList.take (k + 1)) = byt (s.data.toList.take k) + 1 ∧ brk (s.data.toList.take (k + 1)) = brk (s.data.toList.take k) + 0 ∧ run (s.data.toList.take (k + 1)) = run (s.data.toList.take k) + 1 ∧ unt (s.data.toList.take (k + 1)) = unt (s.data.toList.take k) + 1 := by
            rw [Ht.out]
            refine ⟨t1, ?_, ?_, ?_⟩
            · rw [t2]; first | rw [if_pos (by omega)] | rw [if_neg (by omega)]
            · rw [t3]; first | rw [if_pos (by omega)] | rw [if_neg (by omega)]
            · rw [t4]; repeat' split
              all_goals omega
          have Hk2 := Lib.hid hk2
          clear t1 t2 t3 t4 hk2
          go_wp2_with fail
          refine (refLead_any s[k] _).mono ?_
          rintro e w2 ⟨rfl, rfl⟩
          rw [Hld.out]
          go_wp2_with fail
          go_roundw
          case rel =>
            refine ⟨k + 1, by omega, by go_num, ?_, ?_, ?_⟩
            · rw [Hk2.out.1, Hk2.out.2.1, Hk2.out.2.2.1, Hk2.out.2.2.2]
              exact (((hb.set 0 _).set 2 _).set 3 _)
            · exact Blk.mod hr (S := (· = w.heap.size + 1)) (by repeat (first | exact Mod.refl _ _ | refine Mod.setCell ?_ (fun _ => by rfl) _)) (fun e => by omega)
            · repeat (first | exact hx | refine Mod.setCell ?_ (by simp) _)
          case measure => simp [intOf]; omega
      · have b1 : ((s[k].toNat : Int) == 10) = false := by simp; omega
        by_cases h2 : 191 < s[k].toNat
        · have hld : decide (s[k].toNat < 128 ∨ 191 < s[k].toNat) = true := by simp; omega
          have Hld := Lib.hid hld
          clear hld
          by_cases h3 : 240 ≤ s[k].toNat
          · have b2 : (240 : Int) ≤ (s[k].toNat : Int) := by omega
            obtain ⟨t1, t2, t3, t4⟩ := Hts.out
            have hk2 : byt (s.data.toList.take (k + 1)) = byt (s.data.toList.take k) + 1 ∧ brk (s.data.toList.take (k + 1)) = brk (s.data.toList.take k) + 0 ∧ run (s.data.toList.take (k + 1)) = run (s.data.toList.take k) + 1 ∧ unt (s.data.toList.take (k + 1)) = unt (s.data.toList.take k) + 2 := by
              rw [Ht.out]
              refine ⟨t1, ?_, ?_, ?_⟩
              · rw [t2]; first | rw [if_pos (by omega)] | rw [if_neg (by omega)]
              · rw [t3]; first | rw [if_pos (by omega)] | rw [if_neg (by omega)]
              · rw [t4]; repeat' split
                all_goals omega
            have Hk2 := Lib.hid hk2
            clear t1 t2 t3 t4 hk2
            go_wp2_with fail
            refine (refLead_any s[k] _).mono ?_
            rintro e w2 ⟨rfl, rfl⟩
            rw [Hld.out]
            go_wp2_with fail
            go_roundw
            case rel =>
              refine ⟨k + 1, by omega, by go_num, ?_, ?_, ?_⟩
              · rw [Hk2.out.1, Hk2.out.2.1, Hk2.out.2.2.1, Hk2.out.2.2.2]
                exact ((((hb.set 0 _).set 2 _).set 3 _).set 3 _)
              · exact Blk.mod hr (S := (· = w.heap.size + 1)) (by repeat (first | exact Mod.refl _ _ | refine Mod.setCell ?_ (fun _ => by rfl) _)) (fun e => by omega)
              · repeat (first | exact hx | refine Mod.setCell ?_ (by simp) _)
            case measure => simp [intOf]; omega
          · have b2 : ¬ ((240 : Int) ≤ (s[k].toNat : Int)) := by omega
            obtain ⟨t1, t2, t3, t4⟩ := Hts.out
            have hk2 : byt (s.data.toList.take (k + 1)) = byt (s.data.toList.take k) + 1 ∧ brk (s.data.toList.take (k + 1)) = brk (s.data.toList.take k) + 0 ∧ run (s.data.toList.take (k + 1)) = run (s.data.toList.take k) + 1 ∧ unt (s.data.toList.take (k + 1)) = unt (s.data.toList.take k) + 1 := by
              rw [Ht.out]
              refine ⟨t1, ?_, ?_, ?_⟩
              · rw [t2]; first | rw [if_pos (by omega)] | rw [if_neg (by omega)]
              · rw [t3]; first | rw [if_pos (by omega)] | rw [if_neg (by omega)]
              · rw [t4]; repeat' split
                all_goals omega
            have Hk2 := Lib.hid hk2
            clear t1 t2 t3 t4 hk2
            go_wp2_with fail
            refine (refLead_any s[k] _).mono ?_
            rintro e w2 ⟨rfl, rfl⟩
            rw [Hld.out]
            go_wp2_with fail
            go_roundw
            case rel =>
              refine ⟨k + 1, by omega, by go_num, ?_, ?_, ?_⟩
              · rw [Hk2.out.1, Hk2.out.2.1, Hk2.out.2.2.1, Hk2.out.2.2.2]
                exact (((hb.set 0 _).set 2 _).set 3 _)
              · exact Blk.mod hr (S := (· = w.heap.size + 1)) (by repeat (first | exact Mod.refl _ _ | refine Mod.setCell ?_ (fun _ => by rfl) _)) (fun e => by omega)
              · repeat (first | exact hx | refine Mod.setCell ?_ (by simp) _)
            case measure => simp [intOf]; omega
        · have hld : decide (s[k].toNat < 128 ∨ 191 < s[k].toNat) = false := by simp; omega
          have Hld := Lib.hid hld
          have b2 : ¬ ((240 : Int) ≤ (s[k].toNat : Int)) := by omega
          clear hld
          obtain ⟨t1, t2, t3, t4⟩ := Hts.out
          have hk2 : byt (s.data.toList.take (k + 1)) = byt (s.data.toList.take k) + 1 ∧ brk (s.data.toList.take (k + 1)) = brk (s.data.toList.take k) + 0 ∧ run (s.data.toList.take (k + 1)) = run (s.data.toList.take k) + 0 ∧ unt (s.data.toList.take (k + 1)) = unt (s.data.toList.take k) + 0 := by
            rw [Ht.out]
            refine ⟨t1, ?_, ?_, ?_⟩
            · rw [t2]; first | rw [if_pos (by omega)] | rw [if_neg (by omega)]
            · rw [t3]; first | rw [if_pos (by omega)] | rw [if_neg (by omega)]
            · rw [t4]; repeat' split
              all_goals omega
          have Hk2 := Lib.hid hk2
          clear t1 t2 t3 t4 hk2
          go_wp2_with fail
          refine (refLead_any s[k] _).mono ?_
          rintro e w2 ⟨rfl, rfl⟩
          rw [Hld.out]
          go_wp2_with fail
          go_roundw
          case rel =>
            refine ⟨k + 1, by omega, by go_num, ?_, ?_, ?_⟩
            · rw [Hk2.out.1, Hk2.out.2.1, Hk2.out.2.2.1, Hk2.out.2.2.2]
              exact (hb.set 0 _)
            · exact Blk.mod hr (S := (· = w.heap.size + 1)) (by repeat (first | exact Mod.refl _ _ | refine Mod.setCell ?_ (fun _ => by rfl) _)) (fun e => by omega)
            · repeat (first | exact hx | refine Mod.setCell ?_ (by simp) _)
          case measure => simp [intOf]; omega
    · have hlt' : ¬ ((k : Int) < (s.size : Int)) := by omega
      obtain ⟨d0, d1, d2, d3, g0, g1, g2, g3⟩ := hr.tal
      go_wp2_with fail
      have hres := ((((hr.set 0 (.int .i64 (byt (s.data.toList.take k) : Nat))).set 1 (.int .i64 (brk (s.data.toList.take k) : Nat))).set 2 (.int .i64 (run (s.data.toList.take k) : Nat))).set 3 (.int .i64 (unt (s.data.toList.take k) : Nat)))
      refine bodyPost_ret (results_cell_row rfl _ _ w.heap.size _ (#[Value.int IntKind.i64 ((byt (s.data.toList.take k) : Nat) : Int), Value.int IntKind.i64 ((brk (s.data.toList.take k) : Nat) : Int), Value.int IntKind.i64 ((run (s.data.toList.take k) : Nat) : Int), Value.int IntKind.i64 ((unt (s.data.toList.take k) : Nat) : Int)] : Array Value) (0, 0) _ rfl hres Tryd.underlying93 rfl refTallySize) rfl ?_
      have e : s.data.toList.take k = s.data.toList := List.take_of_length_le (by rw [toList_length]; omega)
      rw [e]
      refine ⟨rfl, ?_⟩
      exact (((hx.setCell (by simp) _).setCell (by simp) _).setCell (by simp) _).setCell (by simp) _


end Go.Proofs.YtmecdhbiinpepaaDoor

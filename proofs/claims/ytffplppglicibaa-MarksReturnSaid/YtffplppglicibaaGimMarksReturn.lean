/- A range that no edit touches at either end goes by the edits, and by what turns them back, to where it was, however it is posed: the walk. Conditions: none. -/
import Derived.Test.YtffplppglicibaaGimPackR
import Derived.Test.YtffplppglicibaaGimPairs
import Derived.Test.YtffplppglicibaaGimLong
import Derived.Test.YtffplppglicibaaGimLow
import Derived.Test.YtffplppglicibaaGimAwake7
namespace Go.Proofs.Ytffplppglicibaa
open Go.RowKit Go.Gim

theorem long_each : ∀ (l : List ByteArray) (n : Int), longB n l = false → ∀ t ∈ l, (t.size : Int) ≤ n := by
  intro l
  induction l with
  | nil => intro n _ t ht; cases ht
  | cons x r ih =>
    intro n h t ht
    simp only [longB] at h
    split at h
    · cases h
    · rcases List.mem_cons.1 ht with rfl | ht
      · omega
      · have := ih _ h t ht; omega

theorem add_oneR {a b : Int} (p q : Bool) (h0 : 0 ≤ a) (h1 : a ≤ b) (h2 : b ≤ 65536) : addE [] ⟨a, b, p, q, 0⟩ = 0 := by
  rw [addE_top (by unfold mayS; exact decide_eq_true ⟨h0, h1, h2⟩) rfl]; rfl

set_option maxHeartbeats 6400000 in
set_option maxRecDepth 1000000 in
theorem marksReturn_any (w : World) (s : ByteArray) (hs : s.size ≤ 80) (x1 x2 : Int) (p q : Bool)
    (a4 : Option Addr) (c4 : Nat) (gs : List (Int × Int)) (h4 : Reads w 2 a4 gs.length (prCells gs)) (n4 : gs.length ≤ 8)
    (a5 : Option Addr) (c5 : Nat) (ts : List ByteArray) (h5 : Reads w 1 a5 ts.length (ts.map Value.string)) (m5 : ts.length ≤ 9223372036854775807) (hlo : longB 100 ts = false) :
    Calls Try.prog 10 #[.string s, .int .i64 x1, .int .i64 x2, .agg #[.bool p, .bool q], .slice a4 gs.length c4, .slice a5 ts.length c5] w fun e w' => e = .returned (.bool true) ∧ Ext w w' := by
  have hl1 : maxLen = 9223372036854775807 := rfl
  obtain ⟨u, hu⟩ : ∃ u, u = w.alloc (.cells #[.bool p, .bool q] 22) := ⟨_, rfl⟩
  have hxu : Ext w u := by rw [hu]; exact (Mod.refl _ w).alloc _
  have hbu : Blk u w.heap.size 22 #[.bool p, .bool q] := by rw [hu]; exact Blk.new _ _ _
  have HL := long_any 100 a5 c5 ts u (h5.mod hxu (fun _ _ f => f)) m5 (by omega) (by omega)
  rw [hlo] at HL
  have HL' := Lib.hid HL
  have Hte := Lib.hid (long_each ts 100 hlo)
  have H4 := Lib.hid (h4.mod hxu (fun _ _ f => f))
  have H5 := Lib.hid (h5.mod hxu (fun _ _ f => f))
  have i1 : ¬ (80 : Int) < (s.size : Int) := by omega
  have i2 : ¬ (8 : Int) < (gs.length : Int) := by omega
  obtain ⟨a, ha, LA⟩ := low_nat2 x1 (s.size + 1) ((s.size : Int) + 1) (by omega) (by omega) (by omega)
  obtain ⟨m, hm, LB⟩ := low_nat2 x2 (s.size - a + 1) ((s.size : Int) - a + 1) (by omega) (by omega) (by omega)
  have HLA := Lib.hid LA
  have HLB := Lib.hid LB
  obtain ⟨b, hb⟩ : ∃ b : Nat, b = a + m := ⟨_, rfl⟩
  have Hbi := Lib.hid (show (a : Int) + (m : Int) = (b : Int) by omega)
  have hab : a ≤ b := by omega
  have hbz : b ≤ s.size := by omega
  have haz : a ≤ s.size := by omega
  have hmb : m ≤ 80 := by omega
  clear HL LA LB h4 h5 hlo hm hb ha
  go_enter Try.func10, Try.ntmps10
  go_upto_region 1 with fail
  rw [← hu]
  clear hu
  go_wp2_with fail
  refine HL'.out.mono ?_
  rintro e u ⟨rfl, rfl⟩
  clear HL' i1 i2
  go_wp2_with fail
  refine (HLA.out _).mono ?_
  rintro e u ⟨rfl, rfl⟩
  clear HLA
  go_wp2_with fail
  refine (HLB.out _).mono ?_
  rintro e u ⟨rfl, rfl⟩
  clear HLB
  go_upto_region 5 with fail
  rw [Hbi.out]
  go_wp2_with fail
  obtain ⟨G, hG⟩ : ∃ G, G = min gs.length ts.length := ⟨_, rfl⟩
  have hG1 : G ≤ gs.length := by omega
  have hG2 : G ≤ ts.length := by omega
  have HG3 := Lib.hid (show ∀ i, G ≤ i → ¬ (i < gs.length ∧ i < ts.length) from fun i h h2 => by omega)
  have hG4 : G ≤ 8 := by omega
  clear hG
  go_loopw [15, 16, 17] (fun v at_ i wr => ∃ (k : Nat) (E : List Ed) (A : Nat), k ≤ G ∧ i = .int .i64 k ∧ at_ = .int .i64 A ∧ Hid (RetSt s.size a b E A k ∧ wr.ownsRow u.heap.size 37 3 v E.length (edE.cells E)) ∧ Ext u wr) (fun _ _ i _ => G - (intOf i).toNat)
  case atStart => exact ⟨0, [], 0, by omega, rfl, rfl, Lib.hid ⟨RetSt.start _ _ _ (by omega), World.ownsRow_nil _ _ _ _⟩, Mod.refl _ _⟩
  case round =>
    obtain ⟨k, E, A, hk, rfl, rfl, HQ, hx⟩ := hrel
    by_cases hlt : k < G
    · have g1 : (k : Int) < (gs.length : Int) := by omega
      have g2 : (k : Int) < (ts.length : Int) := by omega
      have g0 : (0 : Int) ≤ (k : Int) := by omega
      have g3 : k < gs.length := by omega
      have g4 : k < ts.length := by omega
      obtain ⟨b4, off4, rfl⟩ := H4.out.some (by omega)
      obtain ⟨b5, off5, rfl⟩ := H5.out.some (by omega)
      obtain ⟨p0, p1⟩ := reads_pair (H4.out.mod hx (fun _ _ f => f)) (List.getElem?_eq_getElem g3)
      have p2 := (H5.out.mod hx (fun _ _ f => f)).at (j := k) (v := .string ts[k]) (by simp [g4])
      have Htl := Lib.hid (show ts[k].size ≤ 100 by have := Hte.out _ (List.getElem_mem g4); omega)
      generalize gs[k] = gg at *
      obtain ⟨q0, q1⟩ := gg
      generalize ts[k] = t at *
      simp only at p0 p1
      have B9 := lowN_lt q0 9 (by omega)
      have B6 := lowN_lt q1 6 (by omega)
      have L9 := Lib.hid (lowC q0 9 9 rfl (by omega) (by omega))
      have L6 := Lib.hid (lowC q1 6 6 rfl (by omega) (by omega))
      generalize lowN q0 9 = P at *
      generalize lowN q1 6 = Q at *
      obtain ⟨X, hX⟩ : ∃ X : Nat, X = A + P := ⟨_, rfl⟩
      obtain ⟨Y, hY⟩ : ∃ Y : Nat, Y = X + Q := ⟨_, rfl⟩
      have HX := Lib.hid (show (A : Int) + (P : Int) = (X : Int) by omega)
      have HY := Lib.hid (show (X : Int) + (Q : Int) = (Y : Int) by omega)
      have hA0 := HQ.out.1.hi
      have hEl := HQ.out.1.len
      have hAX : A ≤ X := by omega
      have hXY : X ≤ Y := by omega
      have hXb : X ≤ 200 := by omega
      have hYb : Y ≤ 300 := by omega
      obtain ⟨va, vc, hva, _, _⟩ := ownsRow_shape HQ.out.2
      subst hva
      have hb4 := World.block_lt_of_cell? _ _ p0
      have hb5 := World.block_lt_of_cell? _ _ p2
      clear g3 g4 hX hY
      go_wp2_with fail
      refine (L9.out _).mono ?_
      rintro e wr ⟨rfl, rfl⟩
      go_upto_region 11 with fail
      rw [HX.out]
      go_wp2_with fail
      refine (L6.out _).mono ?_
      rintro e wr ⟨rfl, rfl⟩
      go_upto_region 12 with fail
      rw [HY.out]
      clear HX HY L9 L6 B9 B6 p0 p1
      by_cases h1 : X ≤ a
      · have h1' : (X : Int) ≤ (a : Int) := by omega
        by_cases h2 : a ≤ Y
        · have h2' : (a : Int) ≤ (Y : Int) := by omega
          go_wp2_with fail
          go_roundw
          case rel => exact ⟨k + 1, E, A, by omega, by go_num, rfl, Lib.hid ⟨HQ.out.1.skip, HQ.out.2⟩, hx⟩
          case measure => simp [intOf]; omega
        · have h2' : ¬ (a : Int) ≤ (Y : Int) := by omega
          have h3' : (X : Int) ≤ (b : Int) := by omega
          have h4' : ¬ (b : Int) ≤ (Y : Int) := by omega
          have hy1 : ¬ (s.size : Int) < (Y : Int) := by omega
          rcases Nat.eq_zero_or_pos k with hk1 | hk1
          · have hk2 : ¬ (0 : Int) < (k : Int) := by omega
            have Hnew := Lib.hid (HQ.out.1.take (x := X) (y := Y) (t := t) (by omega) (.inl hk1) (by omega) (by omega) (by omega) (by omega) Htl.out)
            clear hk1
            go_wp2_with (at_builtin; refine wpList_append_reads rfl _ _ 47 rfl u.heap.size 37 _ 3 32 Try.info37 Try.underlying47 rfl (by decide) _ E.length _ rfl (HQ.out.2.alloc _) _ 1 1 [.int .i64 (X : Nat), .int .i64 (Y : Nat), .string t] rfl ?hrd (edE.one ⟨(X : Nat), (Y : Nat), t⟩) (by omega) (by omega) ?hbs ?_)
            case hrd =>
              have := Reads.new wr 37 #[.int .i64 (X : Nat), .int .i64 (Y : Nat), .string t] 3 1 rfl
              simpa using this
            case hbs => have := hx.size; simp; omega
            intro v' w7 hown hm7 hbk
            have hx7 := (hx.alloc (.cells #[.int .i64 (X : Nat), .int .i64 (Y : Nat), .string t] 37)).over hm7 (fun i hi => (HQ.out.2.lt i hi).1)
            have Hown := Lib.hid hown
            clear hm7 hbk hown
            go_wp2_with fail
            go_roundw
            case rel => exact ⟨k + 1, E ++ [⟨(X : Nat), (Y : Nat), t⟩], Y, by omega, by go_num, rfl, Lib.hid ⟨Hnew.out, by rw [edE.cells_append, List.length_append, List.length_singleton]; exact Hown.out⟩, hx7⟩
            case measure => simp [intOf]; omega
          · have hk2 : (0 : Int) < (k : Int) := by omega
            by_cases hxa : X = A
            · have hxa1 : ((X : Int) == (A : Int)) = true := by simp [hxa]
              clear hxa
              go_wp2_with fail
              go_roundw
              case rel => exact ⟨k + 1, E, A, by omega, by go_num, rfl, Lib.hid ⟨HQ.out.1.skip, HQ.out.2⟩, hx⟩
              case measure => simp [intOf]; omega
            · have hxa1 : ((X : Int) == (A : Int)) = false := by simp; omega
              have Hnew := Lib.hid (HQ.out.1.take (x := X) (y := Y) (t := t) (by omega) (.inr (by omega)) (by omega) (by omega) (by omega) (by omega) Htl.out)
              clear hxa
              go_wp2_with (at_builtin; refine wpList_append_reads rfl _ _ 47 rfl u.heap.size 37 _ 3 32 Try.info37 Try.underlying47 rfl (by decide) _ E.length _ rfl (HQ.out.2.alloc _) _ 1 1 [.int .i64 (X : Nat), .int .i64 (Y : Nat), .string t] rfl ?hrd (edE.one ⟨(X : Nat), (Y : Nat), t⟩) (by omega) (by omega) ?hbs ?_)
              case hrd =>
                have := Reads.new wr 37 #[.int .i64 (X : Nat), .int .i64 (Y : Nat), .string t] 3 1 rfl
                simpa using this
              case hbs => have := hx.size; simp; omega
              intro v' w7 hown hm7 hbk
              have hx7 := (hx.alloc (.cells #[.int .i64 (X : Nat), .int .i64 (Y : Nat), .string t] 37)).over hm7 (fun i hi => (HQ.out.2.lt i hi).1)
              have Hown := Lib.hid hown
              clear hm7 hbk hown
              go_wp2_with fail
              go_roundw
              case rel => exact ⟨k + 1, E ++ [⟨(X : Nat), (Y : Nat), t⟩], Y, by omega, by go_num, rfl, Lib.hid ⟨Hnew.out, by rw [edE.cells_append, List.length_append, List.length_singleton]; exact Hown.out⟩, hx7⟩
              case measure => simp [intOf]; omega
      · have h1' : ¬ (X : Int) ≤ (a : Int) := by omega
        by_cases h3 : X ≤ b
        · have h3' : (X : Int) ≤ (b : Int) := by omega
          by_cases h4 : b ≤ Y
          · have h4' : (b : Int) ≤ (Y : Int) := by omega
            go_wp2_with fail
            go_roundw
            case rel => exact ⟨k + 1, E, A, by omega, by go_num, rfl, Lib.hid ⟨HQ.out.1.skip, HQ.out.2⟩, hx⟩
            case measure => simp [intOf]; omega
          · have h4' : ¬ (b : Int) ≤ (Y : Int) := by omega
            have hy1 : ¬ (s.size : Int) < (Y : Int) := by omega
            rcases Nat.eq_zero_or_pos k with hk1 | hk1
            · have hk2 : ¬ (0 : Int) < (k : Int) := by omega
              have Hnew := Lib.hid (HQ.out.1.take (x := X) (y := Y) (t := t) (by omega) (.inl hk1) (by omega) (by omega) (by omega) (by omega) Htl.out)
              clear hk1
              go_wp2_with (at_builtin; refine wpList_append_reads rfl _ _ 47 rfl u.heap.size 37 _ 3 32 Try.info37 Try.underlying47 rfl (by decide) _ E.length _ rfl (HQ.out.2.alloc _) _ 1 1 [.int .i64 (X : Nat), .int .i64 (Y : Nat), .string t] rfl ?hrd (edE.one ⟨(X : Nat), (Y : Nat), t⟩) (by omega) (by omega) ?hbs ?_)
              case hrd =>
                have := Reads.new wr 37 #[.int .i64 (X : Nat), .int .i64 (Y : Nat), .string t] 3 1 rfl
                simpa using this
              case hbs => have := hx.size; simp; omega
              intro v' w7 hown hm7 hbk
              have hx7 := (hx.alloc (.cells #[.int .i64 (X : Nat), .int .i64 (Y : Nat), .string t] 37)).over hm7 (fun i hi => (HQ.out.2.lt i hi).1)
              have Hown := Lib.hid hown
              clear hm7 hbk hown
              go_wp2_with fail
              go_roundw
              case rel => exact ⟨k + 1, E ++ [⟨(X : Nat), (Y : Nat), t⟩], Y, by omega, by go_num, rfl, Lib.hid ⟨Hnew.out, by rw [edE.cells_append, List.length_append, List.length_singleton]; exact Hown.out⟩, hx7⟩
              case measure => simp [intOf]; omega
            · have hk2 : (0 : Int) < (k : Int) := by omega
              by_cases hxa : X = A
              · have hxa1 : ((X : Int) == (A : Int)) = true := by simp [hxa]
                clear hxa
                go_wp2_with fail
                go_roundw
                case rel => exact ⟨k + 1, E, A, by omega, by go_num, rfl, Lib.hid ⟨HQ.out.1.skip, HQ.out.2⟩, hx⟩
                case measure => simp [intOf]; omega
              · have hxa1 : ((X : Int) == (A : Int)) = false := by simp; omega
                have Hnew := Lib.hid (HQ.out.1.take (x := X) (y := Y) (t := t) (by omega) (.inr (by omega)) (by omega) (by omega) (by omega) (by omega) Htl.out)
                clear hxa
                go_wp2_with (at_builtin; refine wpList_append_reads rfl _ _ 47 rfl u.heap.size 37 _ 3 32 Try.info37 Try.underlying47 rfl (by decide) _ E.length _ rfl (HQ.out.2.alloc _) _ 1 1 [.int .i64 (X : Nat), .int .i64 (Y : Nat), .string t] rfl ?hrd (edE.one ⟨(X : Nat), (Y : Nat), t⟩) (by omega) (by omega) ?hbs ?_)
                case hrd =>
                  have := Reads.new wr 37 #[.int .i64 (X : Nat), .int .i64 (Y : Nat), .string t] 3 1 rfl
                  simpa using this
                case hbs => have := hx.size; simp; omega
                intro v' w7 hown hm7 hbk
                have hx7 := (hx.alloc (.cells #[.int .i64 (X : Nat), .int .i64 (Y : Nat), .string t] 37)).over hm7 (fun i hi => (HQ.out.2.lt i hi).1)
                have Hown := Lib.hid hown
                clear hm7 hbk hown
                go_wp2_with fail
                go_roundw
                case rel => exact ⟨k + 1, E ++ [⟨(X : Nat), (Y : Nat), t⟩], Y, by omega, by go_num, rfl, Lib.hid ⟨Hnew.out, by rw [edE.cells_append, List.length_append, List.length_singleton]; exact Hown.out⟩, hx7⟩
                case measure => simp [intOf]; omega
        · have h3' : ¬ (X : Int) ≤ (b : Int) := by omega
          by_cases hy : s.size < Y
          · have hy1 : (s.size : Int) < (Y : Int) := by omega
            go_wp2_with fail
            go_roundw
            case rel => exact ⟨k + 1, E, A, by omega, by go_num, rfl, Lib.hid ⟨HQ.out.1.skip, HQ.out.2⟩, hx⟩
            case measure => simp [intOf]; omega
          · have hy1 : ¬ (s.size : Int) < (Y : Int) := by omega
            rcases Nat.eq_zero_or_pos k with hk1 | hk1
            · have hk2 : ¬ (0 : Int) < (k : Int) := by omega
              have Hnew := Lib.hid (HQ.out.1.take (x := X) (y := Y) (t := t) (by omega) (.inl hk1) (by omega) (by omega) (by omega) (by omega) Htl.out)
              clear hk1
              go_wp2_with (at_builtin; refine wpList_append_reads rfl _ _ 47 rfl u.heap.size 37 _ 3 32 Try.info37 Try.underlying47 rfl (by decide) _ E.length _ rfl (HQ.out.2.alloc _) _ 1 1 [.int .i64 (X : Nat), .int .i64 (Y : Nat), .string t] rfl ?hrd (edE.one ⟨(X : Nat), (Y : Nat), t⟩) (by omega) (by omega) ?hbs ?_)
              case hrd =>
                have := Reads.new wr 37 #[.int .i64 (X : Nat), .int .i64 (Y : Nat), .string t] 3 1 rfl
                simpa using this
              case hbs => have := hx.size; simp; omega
              intro v' w7 hown hm7 hbk
              have hx7 := (hx.alloc (.cells #[.int .i64 (X : Nat), .int .i64 (Y : Nat), .string t] 37)).over hm7 (fun i hi => (HQ.out.2.lt i hi).1)
              have Hown := Lib.hid hown
              clear hm7 hbk hown
              go_wp2_with fail
              go_roundw
              case rel => exact ⟨k + 1, E ++ [⟨(X : Nat), (Y : Nat), t⟩], Y, by omega, by go_num, rfl, Lib.hid ⟨Hnew.out, by rw [edE.cells_append, List.length_append, List.length_singleton]; exact Hown.out⟩, hx7⟩
              case measure => simp [intOf]; omega
            · have hk2 : (0 : Int) < (k : Int) := by omega
              by_cases hxa : X = A
              · have hxa1 : ((X : Int) == (A : Int)) = true := by simp [hxa]
                clear hxa
                go_wp2_with fail
                go_roundw
                case rel => exact ⟨k + 1, E, A, by omega, by go_num, rfl, Lib.hid ⟨HQ.out.1.skip, HQ.out.2⟩, hx⟩
                case measure => simp [intOf]; omega
              · have hxa1 : ((X : Int) == (A : Int)) = false := by simp; omega
                have Hnew := Lib.hid (HQ.out.1.take (x := X) (y := Y) (t := t) (by omega) (.inr (by omega)) (by omega) (by omega) (by omega) (by omega) Htl.out)
                clear hxa
                go_wp2_with (at_builtin; refine wpList_append_reads rfl _ _ 47 rfl u.heap.size 37 _ 3 32 Try.info37 Try.underlying47 rfl (by decide) _ E.length _ rfl (HQ.out.2.alloc _) _ 1 1 [.int .i64 (X : Nat), .int .i64 (Y : Nat), .string t] rfl ?hrd (edE.one ⟨(X : Nat), (Y : Nat), t⟩) (by omega) (by omega) ?hbs ?_)
                case hrd =>
                  have := Reads.new wr 37 #[.int .i64 (X : Nat), .int .i64 (Y : Nat), .string t] 3 1 rfl
                  simpa using this
                case hbs => have := hx.size; simp; omega
                intro v' w7 hown hm7 hbk
                have hx7 := (hx.alloc (.cells #[.int .i64 (X : Nat), .int .i64 (Y : Nat), .string t] 37)).over hm7 (fun i hi => (HQ.out.2.lt i hi).1)
                have Hown := Lib.hid hown
                clear hm7 hbk hown
                go_wp2_with fail
                go_roundw
                case rel => exact ⟨k + 1, E ++ [⟨(X : Nat), (Y : Nat), t⟩], Y, by omega, by go_num, rfl, Lib.hid ⟨Hnew.out, by rw [edE.cells_append, List.length_append, List.length_singleton]; exact Hown.out⟩, hx7⟩
                case measure => simp [intOf]; omega
    · have hend := HG3.out k (by omega)
      have hE0 := HQ.out.2
      obtain ⟨d1, d2, d3, d4, d5, d6, d7, d8, d9⟩ := HQ.out.1.done hs (by omega) (by omega) (by omega) (by omega) p q
      obtain ⟨ae, ce, hve, hre⟩ := Enc.owns_reads (E := edE) hE0
      subst hve
      have Hre := Lib.hid hre
      have D2 := Lib.hid d2
      have D3 := Lib.hid d3
      have D4 := Lib.hid d4
      have D5 := Lib.hid d5
      have D6 := Lib.hid d6
      have D7 := Lib.hid d7
      have HB := Lib.hid (cback_yes s ae ce E wr (by omega) hre (by omega) (fun e he => (d3 e he).2.2.2) d1)
      unfold BackPost at HB
      have Hfar := Lib.hid (show ∀ tb mb, wr.heap.size ≤ tb → wr.heap.size ≤ mb → 0 < E.length → ∀ a0, ae = some a0 → ¬ tabS tb mb a0.block from fun tb mb l1 l2 hz0 a0 ha0 => by
        obtain ⟨g, c, hs0⟩ := Enc.owns_some (E := edE) hE0 hz0
        cases hs0
        cases ha0
        have := (Enc.owns_block (E := edE) hE0).2
        unfold tabS
        simp only
        omega)
      have HA0 := Lib.hid (add_oneR (a := a) (b := b) p q (by omega) (by omega) (by omega))
      have HT0 := Lib.hid (tok1 HA0.out)
      have hm1 := moveT_free HT0.out (by simp) E
      have HT1 := Lib.hid (show Tok [(1, mvR E ⟨a, b, p, q, 0⟩)] 1 2065536 by
        have := HT0.out.move (es := E) d3 (by omega) (by omega)
        rw [hm1] at this
        exact this)
      have HM1 := Lib.hid (show moveT E [(1, (⟨a, b, p, q, 0⟩ : Rg))] = [(1, mvR E ⟨a, b, p, q, 0⟩)] from hm1)
      have HM2 := Lib.hid (show moveT (backL s 0 E) [(1, mvR E ⟨a, b, p, q, 0⟩)] = [(1, ⟨a, b, p, q, 0⟩)] by
        rw [moveT_free HT1.out (by simp [mvR]) (backL s 0 E)]
        show [(1, mvR (backL s 0 E) (mvR E ⟨a, b, p, q, 0⟩))] = _
        rw [d9])
      have hEl8 := d8
      have Hq : (k < gs.length ∧ ¬ k < ts.length) ∨ ¬ k < gs.length := by
        by_cases a : k < gs.length
        · exact .inl ⟨a, fun b => hend ⟨a, b⟩⟩
        · exact .inr a
      clear hE0 HQ hend hre d1 d2 d3 d4 d5 d6 d7 d8 d9 hm1 hlt
      rcases Hq with ⟨q1, q2⟩ | q1
      · have q3 : (k : Int) < (gs.length : Int) := by omega
        have q4 : ¬ (k : Int) < (ts.length : Int) := by omega
        clear q1 q2
        go_wp2_with fail
        refine HB.out.mono ?_
        rintro e w3 ⟨a2, c2, rfl, hob, hx3⟩
        rw [D4.out] at hob ⊢
        have Hob := Lib.hid hob
        have hx03 := hx.ext_trans hx3
        clear HB hob
        go_wp2_with fail
        refine (tnew_any w3).mono ?_
        rintro e w4 ⟨tb, mb, rfl, h1, l1, l2, hx4⟩
        have HA := Lib.hid (tadd_any tb mb [] 0 ⟨a, b, p, q, 0⟩ w4 h1 (by simp) rfl (by omega) (by omega) (show (Lit.int .i64 0).wf = true by decide))
        have hx04 := hx03.ext_trans hx4
        have hb4 := hbu.mod hx04 (fun f => f)
        have d0 : w4.cell? ⟨w.heap.size, 0, none⟩ = some (.bool p) := hb4.cell 0
        have d1 : w4.cell? ⟨w.heap.size, 1, none⟩ = some (.bool q) := hb4.cell 1
        have hlt4 := hb4.lt
        clear h1 hx03
        go_wp2_with fail
        refine HA.out.mono ?_
        rintro e w5 hp5
        rcases hp5 with ⟨_, rfl, h5, hm5⟩ | ⟨hne, _⟩
        · have H5 := Lib.hid (show TabAt w5 tb mb [(1, ⟨a, b, p, q, 0⟩)] 1 from h5)
          have hx05 : Ext u w5 := hx04.trans hm5 (fun i hi e => by unfold tabS at e; have := hx.size; have := hx3.size; omega)
          have Hre5 := Lib.hid (reads_mod0 (Hre.out.mod (hx3.ext_trans hx4) (fun _ _ f => f)) hm5 (fun hz0 a0 ha0 => Hfar.out tb mb (Nat.le_trans hx3.size l1) (Nat.le_trans hx3.size l2) hz0 a0 ha0))
          have Hob5 := Lib.hid (reads_mod0 ((Reads.own Hob.out).mod hx4 (fun _ _ f => f)) hm5 (fun hz0 a0 ha0 => by
            obtain ⟨g, c, hs0⟩ := Enc.owns_some (E := edE) Hob.out hz0
            cases hs0
            cases ha0
            have := (Enc.owns_block (E := edE) Hob.out).2
            unfold tabS
            simp only
            omega))
          have HV := Lib.hid (tmove_all tb mb [(1, ⟨a, b, p, q, 0⟩)] 1 65536 E ae ce w5 H5.out HT0.out (by omega) (by omega) Hre5.out (by omega) (fun e he => (D3.out e he).2.2.2) (fun hz0 a0 ha0 => Hfar.out tb mb (Nat.le_trans hx3.size l1) (Nat.le_trans hx3.size l2) hz0 a0 ha0))
          have Hfb := Lib.hid (show 0 < (backL s 0 E).length → ∀ a0, a2 = some a0 → ¬ tabS tb mb a0.block from fun hz0 a0 ha0 => by
            obtain ⟨g, c, hs0⟩ := Enc.owns_some (E := edE) Hob.out hz0
            cases hs0
            cases ha0
            have := (Enc.owns_block (E := edE) Hob.out).2
            unfold tabS
            simp only
            omega)
          clear HA h5 hm5 d0 d1 hlt4 hb4 hx04 Hob
          go_wp2_with fail
          refine HV.out.mono ?_
          rintro e w6 hp6
          rcases hp6 with ⟨_, rfl, h6, hm6⟩ | ⟨hne, _⟩
          · rw [HM1.out] at h6
            have H6 := Lib.hid h6
            have hx06 : Ext u w6 := hx05.trans hm6 (fun i hi e => by unfold tabS at e; have := hx.size; have := hx3.size; omega)
            have Hob6 := Lib.hid (reads_mod0 Hob5.out hm6 Hfb.out)
            have HV2 := Lib.hid (tmove_all tb mb [(1, mvR E ⟨a, b, p, q, 0⟩)] 1 2065536 (backL s 0 E) a2 c2 w6 H6.out HT1.out (by omega) (by omega) Hob6.out (by have := D7.out; omega) (fun e he => (D6.out e he).2.2.2) Hfb.out)
            clear HV h6 hm6 Hob5
            go_wp2_with fail
            refine HV2.out.mono ?_
            rintro e w7 hp7
            rcases hp7 with ⟨_, rfl, h7, hm7⟩ | ⟨hne, _⟩
            · rw [HM2.out] at h7
              have hx07 : Ext u w7 := hx06.trans hm7 (fun i hi e => by unfold tabS at e; have := hx.size; have := hx3.size; omega)
              have hg := tget_any tb mb _ 1 1 w7 h7 (id_wf (by omega) (by omega))
              rw [show getR [(1, (⟨a, b, p, q, 0⟩ : Rg))] 1 = some ⟨a, b, p, q, 0⟩ from rfl] at hg
              rw [show (some (⟨a, b, p, q, 0⟩ : Rg)).getD rg0 = ⟨a, b, p, q, 0⟩ from rfl] at hg
              unfold rgV at hg
              simp only [Option.isSome_some] at hg
              have HG := Lib.hid hg
              clear HV2 h7 hm7 hg
              go_wp2_with fail
              refine HG.out.mono ?_
              rintro e w8 ⟨rfl, hx8⟩
              go_wp2_with fail
              refine (awake7_any _).mono ?_
              rintro e w9 ⟨rfl, hx9⟩
              go_wp2_with fail
              go_ret
              exact ⟨rfl, ((hxu.ext_trans hx07).ext_trans hx8).trans (((Mod.refl (fun _ => False) w8).alloc _).ext_trans hx9) (fun _ _ f => f)⟩
            · exact absurd D5.out hne
          · exact absurd D2.out hne
        · exact absurd HA0.out hne
      · have q3 : ¬ (k : Int) < (gs.length : Int) := by omega
        clear q1
        go_wp2_with fail
        refine HB.out.mono ?_
        rintro e w3 ⟨a2, c2, rfl, hob, hx3⟩
        rw [D4.out] at hob ⊢
        have Hob := Lib.hid hob
        have hx03 := hx.ext_trans hx3
        clear HB hob
        go_wp2_with fail
        refine (tnew_any w3).mono ?_
        rintro e w4 ⟨tb, mb, rfl, h1, l1, l2, hx4⟩
        have HA := Lib.hid (tadd_any tb mb [] 0 ⟨a, b, p, q, 0⟩ w4 h1 (by simp) rfl (by omega) (by omega) (show (Lit.int .i64 0).wf = true by decide))
        have hx04 := hx03.ext_trans hx4
        have hb4 := hbu.mod hx04 (fun f => f)
        have d0 : w4.cell? ⟨w.heap.size, 0, none⟩ = some (.bool p) := hb4.cell 0
        have d1 : w4.cell? ⟨w.heap.size, 1, none⟩ = some (.bool q) := hb4.cell 1
        have hlt4 := hb4.lt
        clear h1 hx03
        go_wp2_with fail
        refine HA.out.mono ?_
        rintro e w5 hp5
        rcases hp5 with ⟨_, rfl, h5, hm5⟩ | ⟨hne, _⟩
        · have H5 := Lib.hid (show TabAt w5 tb mb [(1, ⟨a, b, p, q, 0⟩)] 1 from h5)
          have hx05 : Ext u w5 := hx04.trans hm5 (fun i hi e => by unfold tabS at e; have := hx.size; have := hx3.size; omega)
          have Hre5 := Lib.hid (reads_mod0 (Hre.out.mod (hx3.ext_trans hx4) (fun _ _ f => f)) hm5 (fun hz0 a0 ha0 => Hfar.out tb mb (Nat.le_trans hx3.size l1) (Nat.le_trans hx3.size l2) hz0 a0 ha0))
          have Hob5 := Lib.hid (reads_mod0 ((Reads.own Hob.out).mod hx4 (fun _ _ f => f)) hm5 (fun hz0 a0 ha0 => by
            obtain ⟨g, c, hs0⟩ := Enc.owns_some (E := edE) Hob.out hz0
            cases hs0
            cases ha0
            have := (Enc.owns_block (E := edE) Hob.out).2
            unfold tabS
            simp only
            omega))
          have HV := Lib.hid (tmove_all tb mb [(1, ⟨a, b, p, q, 0⟩)] 1 65536 E ae ce w5 H5.out HT0.out (by omega) (by omega) Hre5.out (by omega) (fun e he => (D3.out e he).2.2.2) (fun hz0 a0 ha0 => Hfar.out tb mb (Nat.le_trans hx3.size l1) (Nat.le_trans hx3.size l2) hz0 a0 ha0))
          have Hfb := Lib.hid (show 0 < (backL s 0 E).length → ∀ a0, a2 = some a0 → ¬ tabS tb mb a0.block from fun hz0 a0 ha0 => by
            obtain ⟨g, c, hs0⟩ := Enc.owns_some (E := edE) Hob.out hz0
            cases hs0
            cases ha0
            have := (Enc.owns_block (E := edE) Hob.out).2
            unfold tabS
            simp only
            omega)
          clear HA h5 hm5 d0 d1 hlt4 hb4 hx04 Hob
          go_wp2_with fail
          refine HV.out.mono ?_
          rintro e w6 hp6
          rcases hp6 with ⟨_, rfl, h6, hm6⟩ | ⟨hne, _⟩
          · rw [HM1.out] at h6
            have H6 := Lib.hid h6
            have hx06 : Ext u w6 := hx05.trans hm6 (fun i hi e => by unfold tabS at e; have := hx.size; have := hx3.size; omega)
            have Hob6 := Lib.hid (reads_mod0 Hob5.out hm6 Hfb.out)
            have HV2 := Lib.hid (tmove_all tb mb [(1, mvR E ⟨a, b, p, q, 0⟩)] 1 2065536 (backL s 0 E) a2 c2 w6 H6.out HT1.out (by omega) (by omega) Hob6.out (by have := D7.out; omega) (fun e he => (D6.out e he).2.2.2) Hfb.out)
            clear HV h6 hm6 Hob5
            go_wp2_with fail
            refine HV2.out.mono ?_
            rintro e w7 hp7
            rcases hp7 with ⟨_, rfl, h7, hm7⟩ | ⟨hne, _⟩
            · rw [HM2.out] at h7
              have hx07 : Ext u w7 := hx06.trans hm7 (fun i hi e => by unfold tabS at e; have := hx.size; have := hx3.size; omega)
              have hg := tget_any tb mb _ 1 1 w7 h7 (id_wf (by omega) (by omega))
              rw [show getR [(1, (⟨a, b, p, q, 0⟩ : Rg))] 1 = some ⟨a, b, p, q, 0⟩ from rfl] at hg
              rw [show (some (⟨a, b, p, q, 0⟩ : Rg)).getD rg0 = ⟨a, b, p, q, 0⟩ from rfl] at hg
              unfold rgV at hg
              simp only [Option.isSome_some] at hg
              have HG := Lib.hid hg
              clear HV2 h7 hm7 hg
              go_wp2_with fail
              refine HG.out.mono ?_
              rintro e w8 ⟨rfl, hx8⟩
              go_wp2_with fail
              refine (awake7_any _).mono ?_
              rintro e w9 ⟨rfl, hx9⟩
              go_wp2_with fail
              go_ret
              exact ⟨rfl, ((hxu.ext_trans hx07).ext_trans hx8).trans (((Mod.refl (fun _ => False) w8).alloc _).ext_trans hx9) (fun _ _ f => f)⟩
            · exact absurd D5.out hne
          · exact absurd D2.out hne
        · exact absurd HA0.out hne
end Go.Proofs.Ytffplppglicibaa

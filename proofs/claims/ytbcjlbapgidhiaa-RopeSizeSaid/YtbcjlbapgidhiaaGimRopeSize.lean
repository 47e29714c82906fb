/- MaxDoc bytes are let, one more is not, by New, Insert and Join; what is refused changes nothing: the walk. Conditions: none. -/
import Derived.Test.YtbcjlbapgidhiaaGimHeld
import Derived.Test.YtbcjlbapgidhiaaGimLaw3
import Derived.Test.YtbcjlbapgidhiaaGimTwo
import Derived.Deep.RegionLaw
import Derived.Deep.DeepCutAuto
namespace Go.Proofs.Ytbcjlbapgidhiaa
open Go.RowKit Go.Gim

def sizeOfV : Value → Nat
  | .string z => 65536 - z.size
  | _ => 0
theorem Reads.new_at (w : World) (T : TypeId) (cs : Array Value) (size n b : Nat) (xs : List Value) (hb : b = w.heap.size) (h : cs.size = n * size) (hx : cs.toList = xs) : Reads (w.alloc (.cells cs T)) size (some ⟨b, 0, none⟩) n xs := by subst hb; subst hx; exact Reads.new w T cs size n h
theorem Reads.drew {w : World} {size n : Nat} {ao : Option Addr} {xs : List Value} (h : Reads w size ao n xs) : Reads w.drew size ao n xs := h.mod ((Mod.refl (fun _ => False) w).drew) (fun _ _ f => f)
theorem Reads.grown {w w' : World} {size n : Nat} {ao : Option Addr} {xs : List Value} (h : Reads w size ao n xs) (hx : Ext w w') : Reads w' size ao n xs := h.mod hx (fun _ _ f => f)
theorem low_s (x : Int) (n : Nat) (m : Int) (hm : m = n) (h1 : 1 ≤ n) (h2 : n ≤ 1000000) : ∃ p : Nat, p < n ∧ ∀ v, Calls Try.prog 30 #[.int .i64 x, .int .i64 m] v fun e w' => e = .returned (.int .i64 (p : Nat)) ∧ w' = v := by
  subst hm
  refine ⟨lowN x n, lowN_lt x n (by omega), fun v => ?_⟩
  have h := low_any x n v (by omega) (by omega)
  rwa [Int.toNat_natCast] at h

set_option maxHeartbeats 6400000 in
set_option maxRecDepth 1000000 in
theorem ropeSize_any (w : World) (f g : Int) :
    Calls Try.prog 5 #[.int .i64 f, .int .i64 g] w fun e w' => e = .returned (.bool true) ∧ Ext w w' := by
  obtain ⟨p, hp, L1⟩ := low_s f 4 4 (by omega) (by omega) (by omega)
  obtain ⟨q, hq, L2⟩ := low_s g 6 6 (by omega) (by omega) (by omega)
  have L1 := Lib.hid L1
  have L2 := Lib.hid L2
  go_enter Try.func5, Try.ntmps5
  go_wp2_with fail
  go_loop [5] (fun v => ∃ (z : ByteArray) (m : Nat), v = .string z ∧ Hid (z.size * 2 ^ m = 65536) ∧ z.size ≤ 65536 ∧ 1 ≤ z.size) (fun v => sizeOfV v)
  case atStart => exact ⟨_, 16, rfl, Lib.hid (by decide), by decide, by decide⟩
  case round =>
    obtain ⟨z, m, rfl, hz, hz1, hz2⟩ := hrel
    by_cases hlt : z.size < 65536
    · have l1 : (z.size : Int) < 65536 := by omega
      obtain ⟨k, hk⟩ : ∃ k, m = k + 1 := by
        cases m with
        | zero => have := hz.out; simp at this; omega
        | succ k => exact ⟨k, rfl⟩
      subst hk
      have h2 := hz.out
      have h3 : (z.size + z.size) * 2 ^ k = 65536 := by rw [← h2, Nat.pow_succ]; rw [Nat.add_mul]; rw [Nat.mul_comm (2 ^ k) 2, ← Nat.mul_assoc, Nat.mul_comm z.size 2, Nat.mul_assoc]; omega
      have h4 : z.size + z.size ≤ 65536 := by
        have h5 : 0 < 2 ^ k := Nat.two_pow_pos k
        have := Nat.le_mul_of_pos_right (z.size + z.size) h5
        omega
      have H3 := Lib.hid h3
      clear h2 h3
      go_wp2_with fail
      go_round
      case rel => exact ⟨z ++ z, k, rfl, Lib.hid (by rw [ByteArray.size_append]; exact H3.out), by rw [ByteArray.size_append]; exact h4, by rw [ByteArray.size_append]; omega⟩
      case measure => simp [sizeOfV, ByteArray.size_append]; omega
    · have l1 : ¬ (z.size : Int) < 65536 := by omega
      have hzs : z.size = 65536 := by omega
      clear hz hz1 hz2 hlt
      go_wp2_with fail
      refine (L1.out _).mono ?_
      rintro e w1 ⟨rfl, rfl⟩
      go_wp2_with fail
      refine (L2.out _).mono ?_
      rintro e w1 ⟨rfl, rfl⟩
      obtain ⟨n, hna, hnb, hnc⟩ : ∃ n : Nat, n ≤ 65536 - p ∧ 65536 - p ≤ n ∧ (65536 : Int) - (p : Int) = (n : Int) := ⟨65536 - p, Nat.le_refl _, Nat.le_refl _, by omega⟩
      rw [hnc]
      clear hnc
      have hq1 : (q : Int) ≤ 5 := by omega
      have hq2 : (0 : Int) ≤ (q : Int) := by omega
      obtain ⟨c, hc⟩ : ∃ c, (⟨#[98, 99, 100, 101, 102]⟩ : ByteArray).extract 0 q = c := ⟨_, rfl⟩
      have hcs : c.size = q := by rw [← hc, ByteArray.size_extract]; show min q 5 - 0 = q; omega
      obtain ⟨y, hy⟩ : ∃ y, z.extract 0 n = y := ⟨_, rfl⟩
      have hys : y.size = n := by rw [← hy, ByteArray.size_extract]; omega
      have hn1 : (0 : Int) ≤ (n : Int) := by omega
      have hn2 : (n : Int) ≤ (z.size : Int) := by omega
      have hn3 : (n : Int) ≤ 65536 := by omega
      clear L1 L2
      go_wp2_with fail
      go_cut [8, 9] (fun v8 v9 wc => ∃ (wn : World) (D : Dice) (R : Rp), wn = wc ∧ v8 = .pointer (some ⟨R.rb, 0, none⟩) ∧ v9 = .int .i64 0 ∧ Hid (Held w1 D R y wn))
      case rest =>
        obtain ⟨wx, D, R, rfl, rfl, rfl, HR⟩ := hcut
        have hH := HR.out
        have hR0 := hH.rope
        have hsR := hH.size
        rw [hys] at hsR
        have hD1 := dice_lit wx [7] #[.int .u32 7] rfl (by simp) (by simp)
        clear HR
        go_wp2_with fail
        refine hD1.mono ?_
        rintro e w2 ⟨D2, rfl, hD2⟩
        have hO1 := rope_one D2 c w2 hD2.dice (by omega)
        clear hD1
        go_wp2_with fail
        refine hO1.mono ?_
        rintro e w3 ⟨O, rfl, hO⟩
        obtain ⟨hR3, hA3⟩ := hO.with hD2 hR0
        have hH3 := Held.start (s := c) (hH.ext.ext_trans hD2.ext) (Nat.le_trans hH.ext.size hD2.d) hO rfl
        have hK3 : Held w1 D R y w3 := ⟨hR3, hH.text, hH3.ext, hH.new, hH.dice⟩
        have hsO := hH3.size
        clear hO1 hR0
        go_wp2_with fail
        obtain ⟨gc, hgc1, hgc2⟩ : ∃ gc : Int, (n + c.size ≤ 65536 → gc = 0) ∧ (65536 < n + c.size → gc = 4) := by
          by_cases h : n + c.size ≤ 65536
          · exact ⟨0, fun _ => rfl, fun _ => by omega⟩
          · exact ⟨4, fun _ => by omega, fun _ => rfl⟩
        have hNew : ∀ (D : Dice) (w e w'), NewPost D [y, c] w e w' → w3.heap.size ≤ D.d → Ext w3 w → ∃ u, e = .returned (.tuple #[.pointer u, .int .i64 gc]) ∧ Ext w3 w' := by
          intro D w e w' h hd hx
          have hj : (join [y, c]).length = n + c.size := by simp [join, ← hys]
          by_cases hf : n + c.size ≤ 65536
          · obtain ⟨R, h1, h2⟩ := h.1 (by omega)
            rw [hgc1 hf]
            exact ⟨_, h1, (h2.base hx hd).1⟩
          · obtain ⟨h1, h2⟩ := h.2 (by omega)
            rw [hgc2 (by omega)]
            exact ⟨_, h1, hx.ext_trans h2⟩
        have HNew := Lib.hid hNew
        have HG1 := Lib.hid hgc1
        have HG2 := Lib.hid hgc2
        have HK3 := Lib.hid hK3
        have HH3 := Lib.hid hH3
        have HA3 := Lib.hid hA3
        clear hNew hgc1 hgc2 hK3 hH3 hA3 hH hR3 hO hD2 hsR hsO
        go_cut [12, 13] (fun v12 v13 wc => ∃ (wn : World) (u : Option Addr), wn = wc ∧ v12 = .pointer u ∧ v13 = .int .i64 gc ∧ Hid (Ext w3 wn))
        case first =>
          go_region_law (first
            | (go_simp; go_at_call 25; refine (dice_new _ _ _ [1] (by simp) (by simp) ?hr).mono ?_
               case hr => 
                 repeat (first
                   | (with_reducible refine Reads.new_at _ _ _ _ _ _ _ ?_ ?_ ?_
                      · first | (with_reducible rfl) | (simp; done)
                      · rfl
                      · rfl)
                   | with_reducible refine Reads.drew ?_
                   | with_reducible refine Reads.alloc ?_ _
                   | with_reducible refine Reads.grown ?_ hD.ext)
               rintro e w4 ⟨D4, rfl, hD⟩
               have hDx : Ext w3 w4 := Mod.ext_trans (by repeat (first | with_reducible exact Mod.refl _ _ | with_reducible assumption | with_reducible refine Mod.alloc ?_ _ | with_reducible refine Mod.drew ?_)) hD.ext
               have hDd : w3.heap.size ≤ D4.d := Nat.le_trans (Mod.size (S := fun _ => False) (by repeat (first | with_reducible exact Mod.refl _ _ | with_reducible assumption | with_reducible refine Mod.alloc ?_ _ | with_reducible refine Mod.drew ?_))) hD.d
               have hDD := hD.dice)
            | (go_simp; go_at_call 24; refine (rope_new D4 _ _ [y, c] _ ?hd ?hr (by simp)).mono ?_
               case hd => first | exact hDD | exact hDD.ext (by repeat (first | with_reducible exact Mod.refl _ _ | with_reducible assumption | with_reducible refine Mod.alloc ?_ _ | with_reducible refine Mod.drew ?_))
               case hr => 
                 repeat (first
                   | (with_reducible refine Reads.new_at _ _ _ _ _ _ _ ?_ ?_ ?_
                      · first | (with_reducible rfl) | (simp; done)
                      · rfl
                      · rfl)
                   | with_reducible refine Reads.drew ?_
                   | with_reducible refine Reads.alloc ?_ _
                   | with_reducible refine Reads.grown ?_ hD.ext)
               rintro e w5 hP
               obtain ⟨u, rfl, hPx⟩ := HNew.out _ _ _ _ hP hDd (by repeat (first | with_reducible exact Mod.refl _ _ | with_reducible assumption | with_reducible refine Mod.alloc ?_ _ | with_reducible refine Mod.drew ?_))))
          all_goals
            go_wp2_with fail
            go_meet
            case rel => exact ⟨_, u, rfl, rfl, rfl, Lib.hid hPx⟩
        case rest =>
          obtain ⟨wn, u, rfl, rfl, rfl, Hwn⟩ := hcut
          have hwn := Hwn.out
          have hK := HK3.out.on hwn
          have hH := HH3.out.on hwn
          have hA := HA3.out
          have hsR := hK.size
          have hsO := hH.size
          rw [hys] at hsR
          clear hc
          subst hcs
          by_cases hf : n + c.size ≤ 65536
          · obtain rfl := HG1.out hf
            have l2 : ¬ (65536 : Int) < (n : Int) + (c.size : Int) := by omega
            have hi := insert_yes R 1 c wn hK.rope (rises_of ⟨by omega, by omega, by omega⟩) (by omega)
            obtain ⟨Y, hY⟩ : ∃ Y, y.extract 0 1 ++ c ++ y.extract 1 y.size = Y := ⟨_, rfl⟩
            have hYs : Y.size = n + c.size := by rw [← hY, size_in y c 1 (by omega), hys]
            have hYt : splice R.text 1 1 c.data.toList = Y.data.toList := by rw [← hY, hK.text]; exact splice_in y c 1
            obtain ⟨Z, hZ⟩ : ∃ Z, Y.extract 0 1 ++ Y.extract (1 + c.size) Y.size = Z := ⟨_, rfl⟩
            have hZs : Z.size = n := by rw [← hZ, size_out Y 1 (1 + c.size) (by omega) (by omega)]; omega
            have hZt : splice Y.data.toList 1 (1 + (c.size : Int)) [] = Z.data.toList := by rw [← hZ]; exact splice_out Y 1 (1 + c.size)
            rw [hYt] at hi
            have hk := hK.ext
            have HZt := Lib.hid hZt
            have HK := Lib.hid hK
            have HH := Lib.hid hH
            have HA := Lib.hid hA
            have HYs := Lib.hid hYs
            have HZs := Lib.hid hZs
            have hc0 : (0 : Int) ≤ (c.size : Int) := by omega
            have hc5 : (c.size : Int) ≤ 5 := by omega
            clear hf HG1 HG2 HNew hY hYt hZ hZt hK hH hA hYs hZs hsR hsO HK3 HH3 HA3
            go_wp2_with fail
            refine hi.mono ?_
            rintro e w6 ⟨rfl, R6, hd6⟩
            clear hi
            obtain ⟨hO6, hA6⟩ := hd6.aside HA.out HH.out.rope
            have hK6 := HK.out.done hd6 (s' := Y) rfl
            have hz6 := hK6.size
            rw [HYs.out] at hz6
            have hl6 := len_any R6 w6 hK6.rope
            rw [hd6.grew.1, hz6, Int.natCast_add] at hl6
            have hdl := delete_yes R6 1 (1 + (c.size : Int)) w6 hK6.rope (rises_of ⟨by omega, by omega, by omega⟩)
            rw [hd6.grew.1, hK6.text, HZt.out] at hdl
            have hb6 := Lib.hid hd6.grew.1
            have HK6 := Lib.hid hK6
            clear hd6 hK6 hz6
            go_wp2_with fail
            refine hl6.mono ?_
            rintro e w7 ⟨rfl, rfl⟩
            clear hl6
            go_wp2_with fail
            refine hdl.mono ?_
            rintro e w8 ⟨rfl, R8, hd8⟩
            clear hdl
            obtain ⟨hO8, hA8⟩ := hd8.aside hA6 hO6
            have hK8 := HK6.out.done hd8 (s' := Z) rfl
            have hz8 := hK8.size
            rw [HZs.out] at hz8
            have hzO : O.t.size = c.size := HH.out.size
            have hjn := join_any R8 O w8 hK8.rope hO8 hA8 (by omega)
            have hb8 := Lib.hid (hd8.grew.1.trans hb6.out)
            rw [hb8.out] at hjn
            have HK8 := Lib.hid hK8
            have Hz8 := Lib.hid hz8
            have HzO := Lib.hid hzO
            clear hd8 hK8 hz8 hzO hA6 hO6
            go_wp2_with fail
            refine hjn.mono ?_
            rintro e w9 ⟨rfl, R9, hJ⟩
            clear hjn
            have hx9 := (hJ.base HK8.out.ext HK8.out.new HH.out.new).1
            have hs9 : R9.t.size = n + c.size := by
              have a : R9.text.length = R8.text.length + O.text.length := by rw [hJ.text, List.length_append]
              have a1 : R9.t.size = R9.text.length := rfl
              have a2 : R8.t.size = R8.text.length := rfl
              have a3 : O.t.size = O.text.length := rfl
              have := Hz8.out
              have := HzO.out
              omega
            have hl9 : Calls Try.prog 33 #[.pointer (some ⟨O.rb, 0, none⟩)] w9 fun e w' => e = .returned (.int .i64 0) ∧ w' = w9 := len_any _ w9 hJ.other
            have hla := len_any R9 w9 hJ.rope
            rw [hJ.rb, hb8.out, hs9, Int.natCast_add] at hla
            clear hJ hs9 hA8 hO8
            go_wp2_with fail
            refine hl9.mono ?_
            rintro e w10 ⟨rfl, rfl⟩
            clear hl9
            go_wp2_with fail
            refine hla.mono ?_
            rintro e w11 ⟨rfl, rfl⟩
            clear hla
            go_wp2_with fail
            refine (awake3_any _).mono ?_
            rintro e w12 ⟨rfl, hx12⟩
            go_wp2_with fail
            go_ret
            exact ⟨rfl, hx9.ext_trans hx12⟩
          · obtain rfl := HG2.out (by omega)
            have l2 : (65536 : Int) < (n : Int) + (c.size : Int) := by omega
            have hi := insert_big R n c wn hK.rope (rises_of ⟨by omega, by omega, by omega⟩) (by omega)
            have hj := join_big R O wn hK.rope hH.rope (fun e => hA.blocks R.rb (List.mem_cons_self ..) (by rw [e]; exact List.mem_cons_self ..)) (by omega)
            have hl := fun m => len_any R (wn.drewN m) (hK.rope.ext ((Mod.refl _ wn).drewN m))
            have ht := fun m => text_rope O (wn.drewN m) (hH.rope.ext ((Mod.refl _ wn).drewN m))
            rw [hsR] at hl
            rw [hH.bs] at ht
            have b1 : (c.toList == c.toList) = true := str_eq rfl
            have hk := hK.ext
            clear hf HG1 HG2 HNew hsR hsO
            go_wp2_with fail
            refine hi.mono ?_
            rintro e w6 ⟨rfl, rfl⟩
            go_wp2_with fail
            refine hj.mono ?_
            rintro e w7 ⟨rfl, m7, rfl⟩
            go_wp2_with fail
            refine (hl m7).mono ?_
            rintro e w8 ⟨rfl, rfl⟩
            go_wp2_with fail
            refine (ht m7).mono ?_
            rintro e w9 ⟨rfl, hx9⟩
            go_wp2_with fail
            refine (awake3_any _).mono ?_
            rintro e w10 ⟨rfl, hx10⟩
            go_wp2_with fail
            go_ret
            exact ⟨rfl, ((hk.ext_trans ((Mod.refl _ w6).drewN m7)).ext_trans hx9).ext_trans hx10⟩
      case first =>
        go_region_law (first
          | (go_simp; go_at_call 25; refine (dice_new _ _ _ [9, 8] (by simp) (by simp) ?hr).mono ?_
             case hr => 
               repeat (first
                 | (with_reducible refine Reads.new_at _ _ _ _ _ _ _ ?_ ?_ ?_
                    · first | (with_reducible rfl) | (simp; done)
                    · rfl
                    · rfl)
                 | with_reducible refine Reads.drew ?_
                 | with_reducible refine Reads.alloc ?_ _
                 | with_reducible refine Reads.grown ?_ hD.ext)
             rintro e w3 ⟨D, rfl, hD⟩
             have hDx : Ext w1 w3 := Mod.ext_trans (by repeat (first | with_reducible exact Mod.refl _ _ | with_reducible assumption | with_reducible refine Mod.alloc ?_ _ | with_reducible refine Mod.drew ?_)) hD.ext
             have hDd : w1.heap.size ≤ D.d := Nat.le_trans (Mod.size (S := fun _ => False) (by repeat (first | with_reducible exact Mod.refl _ _ | with_reducible assumption | with_reducible refine Mod.alloc ?_ _ | with_reducible refine Mod.drew ?_))) hD.d
             have hDD := hD.dice)
          | (go_simp; go_at_call 24; refine (rope_new D _ _ [y] _ ?hd ?hr (by simp)).mono ?_
             case hd => first | exact hDD | exact hDD.ext (by repeat (first | with_reducible exact Mod.refl _ _ | with_reducible assumption | with_reducible refine Mod.alloc ?_ _ | with_reducible refine Mod.drew ?_))
             case hr => 
               repeat (first
                 | (with_reducible refine Reads.new_at _ _ _ _ _ _ _ ?_ ?_ ?_
                    · first | (with_reducible rfl) | (simp; done)
                    · rfl
                    · rfl)
                 | with_reducible refine Reads.drew ?_
                 | with_reducible refine Reads.alloc ?_ _
                 | with_reducible refine Reads.grown ?_ hD.ext)
             rintro e w4 hP
             obtain ⟨R, rfl, hF⟩ := hP.1 (by simp [join]; omega)
             have hH : Held w1 D R y w4 := Held.start (by repeat (first | with_reducible exact Mod.refl _ _ | with_reducible assumption | with_reducible refine Mod.alloc ?_ _ | with_reducible refine Mod.drew ?_)) hDd hF (by simp [join])))
        all_goals
          go_wp2_with fail
          go_meet
          case rel => exact ⟨_, D, R, rfl, rfl, rfl, Lib.hid hH⟩

theorem ropeSize_calls (w : World) (f : Int) (_ : (Lit.int .i64 f).wf = true) (g : Int) (_ : (Lit.int .i64 g).wf = true) :
    Calls Try.prog 5 #[.int .i64 f, .int .i64 g] w fun e w' => e = .returned (.bool true) ∧ Ext w w' := ropeSize_any w f g

end Go.Proofs.Ytbcjlbapgidhiaa

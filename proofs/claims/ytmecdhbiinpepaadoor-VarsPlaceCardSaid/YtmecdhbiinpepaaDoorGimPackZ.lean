/- Known names; Pairs. Conditions: none. -/
import Derived.Test.YtmecdhbiinpepaaDoorGimRef23
import Derived.Test.YtmecdhbiinpepaaDoorGimLong
import Derived.Test.YtmecdhbiinpepaaDoorGimReg2
import Derived.Deep.DeepCutAuto
namespace Go.Gim
/-- The known names. -/
def knownL : List (List UInt8) := [[84, 77, 95, 83, 69, 76, 69, 67, 84, 69, 68, 95, 84, 69, 88, 84], [84, 77, 95, 67, 85, 82, 82, 69, 78, 84, 95, 76, 73, 78, 69], [84, 77, 95, 67, 85, 82, 82, 69, 78, 84, 95, 87, 79, 82, 68], [84, 77, 95, 76, 73, 78, 69, 95, 73, 78, 68, 69, 88], [84, 77, 95, 76, 73, 78, 69, 95, 78, 85, 77, 66, 69, 82], [84, 77, 95, 70, 73, 76, 69, 78, 65, 77, 69], [84, 77, 95, 70, 73, 76, 69, 78, 65, 77, 69, 95, 66, 65, 83, 69], [84, 77, 95, 68, 73, 82, 69, 67, 84, 79, 82, 89], [84, 77, 95, 70, 73, 76, 69, 80, 65, 84, 72], [67, 76, 73, 80, 66, 79, 65, 82, 68], [87, 79, 82, 75, 83, 80, 65, 67, 69, 95, 78, 65, 77, 69], [82, 65, 78, 68, 79, 77], [82, 65, 78, 68, 79, 77, 95, 72, 69, 88], [85, 85, 73, 68], [67, 85, 82, 82, 69, 78, 84, 95, 89, 69, 65, 82], [67, 85, 82, 82, 69, 78, 84, 95, 77, 79, 78, 84, 72], [67, 85, 82, 82, 69, 78, 84, 95, 68, 65, 84, 69], [67, 85, 82, 82, 69, 78, 84, 95, 72, 79, 85, 82], [67, 85, 82, 82, 69, 78, 84, 95, 77, 73, 78, 85, 84, 69], [67, 85, 82, 82, 69, 78, 84, 95, 83, 69, 67, 79, 78, 68], [73, 78, 68, 69, 78, 84]]
def knownS : List ByteArray := knownL.map (fun c => ⟨c.toArray⟩)
def knownB (n : ByteArray) : Bool := knownS.any (fun c => decide (c = n))
theorem lit_eq {n : ByteArray} {c : List UInt8} : (n.toList == c) = decide ((⟨c.toArray⟩ : ByteArray) = n) := by
  rw [ByteArray.toList_eq, Bool.eq_iff_iff, beq_iff_eq, decide_eq_true_iff]
  constructor
  · intro h; subst h; cases n; rfl
  · intro h; subst h; rfl
theorem knownB_lits (n : ByteArray) : knownB n = knownL.any (fun c => n.toList == c) := by
  unfold knownB knownS
  rw [List.any_map]
  congr 1
  funext c
  exact lit_eq.symm
theorem knownB_drop (n : ByteArray) (k : Nat) (x : ByteArray) (h : knownS[k]? = some x) : (knownS.drop k).any (fun c => decide (c = n)) = (decide (x = n) || (knownS.drop (k + 1)).any (fun c => decide (c = n))) := by
  obtain ⟨hk, rfl⟩ := List.getElem?_eq_some_iff.1 h
  rw [List.drop_eq_getElem_cons hk]; rfl
theorem knownS_len : knownS.length = 21 := rfl
end Go.Gim
namespace Go.Proofs.YtmecdhbiinpepaaDoor
open Go.RowKit Go.Gim
set_option maxHeartbeats 6400000 in
set_option maxRecDepth 1000000 in
theorem known_any (n : ByteArray) (w : World) : Calls Tryd.prog 26 #[.string n] w fun e w' => e = .returned (.bool (knownB n)) ∧ w' = w := by
  have he := knownB_lits n
  have HE := Lib.hid he
  clear he
  generalize knownB n = X at *
  go_enter Tryd.func26, Tryd.ntmps26
  go_wp2_with fail
  all_goals first
    | (exfalso; simp_all; done)
    | (go_ret
       exact ⟨by rw [HE.out]; unfold knownL; simp only [List.any_cons, List.any_nil, Bool.false_or, Bool.true_or, *]; rfl, rfl⟩)
/-- The document's list of names. -/
def NamesPost (w : World) (e : Ending) (w' : World) : Prop := ∃ b, e = .returned (.slice (some ⟨b, 0, none⟩) 21 21) ∧ Reads w' 1 (some ⟨b, 0, none⟩) 21 (knownS.map Value.string) ∧ Ext w w'
set_option maxHeartbeats 6400000 in
set_option maxRecDepth 1000000 in
theorem names_any (w : World) : Calls Tryd.prog 52 #[] w (NamesPost w) := by
  go_enter Tryd.func52, Tryd.ntmps52
  go_wp2_with fail
  go_ret
  exact ⟨_, rfl, Reads.new w _ _ 1 21 rfl, (Mod.refl _ w).alloc _⟩
set_option maxHeartbeats 1600000 in
set_option maxRecDepth 1000000 in
theorem refKnown_any (n : ByteArray) (w : World) : Calls Tryd.prog 27 #[.string n] w fun e w' => e = .returned (.bool (knownB n)) ∧ Ext w w' := by
  obtain ⟨N, hN⟩ : ∃ N, N = knownS := ⟨_, rfl⟩
  have HB := Lib.hid (show knownB n = N.any (fun c => decide (c = n)) by rw [hN]; rfl)
  have HD := Lib.hid (fun k x => hN ▸ knownB_drop n k x)
  have HL := Lib.hid (show N.length = 21 by rw [hN]; rfl)
  have HP := Lib.hid (show ∀ w, Calls Tryd.prog 52 #[] w (fun e w' => ∃ b, e = .returned (.slice (some ⟨b, 0, none⟩) 21 21) ∧ Reads w' 1 (some ⟨b, 0, none⟩) 21 (N.map Value.string) ∧ Ext w w') from hN ▸ names_any)
  clear hN
  generalize knownB n = X at *
  go_enter Tryd.func27, Tryd.ntmps27
  go_wp2_with fail
  refine (HP.out _).mono ?_
  rintro e w1 ⟨b, rfl, hr, hx⟩
  have Hr := Lib.hid hr
  clear hr
  go_wp2_with fail
  go_loop [4] (fun i => ∃ k : Nat, k ≤ 21 ∧ i = .int .i64 k ∧ Hid ((N.drop k).any (fun c => decide (c = n)) = X)) (fun i => 21 - (intOf i).toNat)
  case atStart => exact ⟨0, by omega, rfl, Lib.hid HB.out.symm⟩
  case round =>
    obtain ⟨k, hk, rfl, HG⟩ := hrel
    by_cases hlt : k < 21
    · have hlt' : (k : Int) < 21 := by omega
      have hk0 : (0 : Int) ≤ (k : Int) := by omega
      have hlk : k < N.length := by rw [HL.out]; exact hlt
      have hg := List.getElem?_eq_getElem hlk
      have hc := Hr.out.at (j := k) (v := .string N[k]) (by rw [List.getElem?_map, hg]; rfl)
      rw [Nat.zero_add] at hc
      have hd := HD.out k _ hg
      generalize N[k] = x at *
      have Hd := Lib.hid hd
      have hbl := World.block_lt_of_cell? _ _ hc
      clear hd hg hlk
      by_cases he : x = n
      · have b1 := str_eq he
        have HV := Lib.hid (show X = true by rw [← HG.out, Hd.out, decide_eq_true he]; rfl)
        go_wp2_with fail
        go_ret
        exact ⟨by rw [HV.out]; rfl, hx⟩
      · have b1 := str_ne he
        have HV := Lib.hid (show (N.drop (k + 1)).any (fun c => decide (c = n)) = X by rw [← HG.out, Hd.out, decide_eq_false he]; rfl)
        go_wp2_with fail
        go_round
        case rel => exact ⟨k + 1, by omega, by go_num, HV⟩
        case measure => simp [intOf]; omega
    · have hlt' : ¬ (k : Int) < 21 := by omega
      have HV := Lib.hid (show X = false by rw [← HG.out, List.drop_of_length_le (by rw [HL.out]; omega)]; rfl)
      go_wp2_with fail
      go_ret
      exact ⟨by rw [HV.out]; rfl, hx⟩

set_option maxHeartbeats 1600000 in
set_option maxRecDepth 1000000 in
theorem pairsSame (a b : Option Addr) (c d : Nat) (l : List Pv) (w : World) (ha : Reads w 2 a l.length (spCells l)) (hb : Reads w 2 b l.length (spCells l)) (hn : l.length ≤ 1000000) :
    Calls Tryd.prog 16 #[.slice a l.length c, .slice b l.length d] w fun e w' => e = .returned (.bool true) ∧ Ext w w' := by
  have Ha := Lib.hid ha
  have Hb := Lib.hid hb
  obtain ⟨N, hN⟩ : ∃ N, N = l.length := ⟨_, rfl⟩
  have HN := Lib.hid hN
  rw [← hN] at hn ⊢
  clear ha hb hN
  go_enter Tryd.func16, Tryd.ntmps16
  go_wp2_with fail
  go_loopw [5] (fun i wr => ∃ k : Nat, k ≤ N ∧ i = .int .i64 k ∧ Ext w wr) (fun i _ => N - (intOf i).toNat)
  case atStart => exact ⟨0, by omega, rfl, Mod.refl _ _⟩
  case round =>
    obtain ⟨k, hk, rfl, hx⟩ := hrel
    by_cases hlt : k < N
    · have hlt' : (k : Int) < (N : Int) := by omega
      have hk0 : (0 : Int) ≤ (k : Int) := by omega
      have hlk : k < l.length := by rw [← HN.out]; exact hlt
      obtain ⟨b1, o1, rfl⟩ := Ha.out.some (by omega)
      obtain ⟨b2, o2, rfl⟩ := Hb.out.some (by omega)
      obtain ⟨c0, c1⟩ := reads_sp (Ha.out.mod hx (fun _ _ f => f)) (List.getElem?_eq_getElem hlk)
      obtain ⟨d0, d1⟩ := reads_sp (Hb.out.mod hx (fun _ _ f => f)) (List.getElem?_eq_getElem hlk)
      generalize l[k] = x at *
      obtain ⟨p, q⟩ := x
      have s1 : (p.toList == p.toList) = true := str_eq rfl
      have s2 : (q.toList == q.toList) = true := str_eq rfl
      clear hlk
      go_wp2_with fail
      go_quiet (fail)
      go_wp2_with fail
      go_roundw
      case rel => exact ⟨k + 1, by omega, by go_num, hx.drewN _⟩
      case measure => simp [intOf]; omega
    · have hlt' : ¬ (k : Int) < (N : Int) := by omega
      go_wp2_with fail
      go_ret
      exact ⟨rfl, hx⟩
end Go.Proofs.YtmecdhbiinpepaaDoor

/- What gimletlaw0's Env and Pairs answer; Known. Conditions: at most 1000 variables asked for. -/
namespace Go.Gim
def envR : Int → List Pv → Bool
  | _, [] => false
  | n, x :: r => if longB n [x.1, x.2] = true then true else envR (n - x.1.size - x.2.size) r
def envB (m n : Int) (l : List Pv) : Bool := if m < l.length then true else envR n l
theorem envB_len {m n : Int} {l : List Pv} (h : envB m n l = false) : (l.length : Int) ≤ m := by
  unfold envB at h; split at h
  · cases h
  · omega
theorem long2 {n : Int} {a b : ByteArray} (h : longB n [a, b] = false) (h0 : 0 ≤ n) : (a.size : Int) + b.size + 2 ≤ n := by
  have := longB_no _ _ h h0
  simp only [join_cons, List.length_append, List.length_cons, List.length_nil] at this
  have e1 : a.data.toList.length = a.size := rfl
  have e2 : b.data.toList.length = b.size := rfl
  rw [e1, e2] at this
  omega
/-- How many bytes variables have. -/
def sizeV (l : List Pv) : Nat := (l.map (fun x => x.1.size + x.2.size)).sum
theorem envR_size : ∀ (l : List Pv) (n : Int), envR n l = false → 0 ≤ n → (sizeV l : Int) ≤ n
  | [], n, _, h0 => by simpa [sizeV] using h0
  | x :: r, n, h, h0 => by
    unfold envR at h
    split at h
    · cases h
    · rename_i hx
      have h2 := long2 (by simpa using hx) h0
      have := envR_size r _ h (by omega)
      unfold sizeV at *
      rw [List.map_cons, List.sum_cons]
      omega
end Go.Gim
namespace Go.Proofs.YtmecdhbiinpepaaDoor
open Go.RowKit Go.Gim

set_option maxHeartbeats 1600000 in
set_option maxRecDepth 1000000 in
theorem env_any (m n : Int) (ao : Option Addr) (cap : Nat) (l : List Pv) (w : World) (hr : Reads w 2 ao l.length (spCells l)) (h0 : 0 ≤ n) (h1 : n ≤ 1000000) (hl : l.length ≤ maxLen) (hm : m ≤ 1000) :
    Calls Tryd.prog 10 #[.int .i64 m, .int .i64 n, .slice ao l.length cap] w fun e w' => e = .returned (.bool (envB m n l)) ∧ Ext w w' := by
  unfold maxLen at hl
  by_cases hml : m < (l.length : Int)
  · have he : envB m n l = true := if_pos hml
    rw [he]
    clear he
    go_enter Tryd.func10, Tryd.ntmps10
    go_wp2_with fail
    go_ret
    exact ⟨rfl, Mod.refl _ _⟩
  have he : envB m n l = envR n l := if_neg hml
  rw [he]
  clear he
  generalize hX : envR n l = X
  have HX := Lib.hid hX
  have Hr := Lib.hid hr
  obtain ⟨N, hN⟩ : ∃ N, N = l.length := ⟨_, rfl⟩
  have HN := Lib.hid hN
  rw [← hN] at hl hml ⊢
  clear hX hr hN
  go_enter Tryd.func10, Tryd.ntmps10
  go_wp2_with fail
  go_loopw [1, 7] (fun s1 s7 wr => ∃ (k : Nat) (j : Int), k ≤ N ∧ 0 ≤ j ∧ j ≤ 1000000 ∧ s7 = .int .i64 k ∧ s1 = .int .i64 j ∧ Hid (envR j (l.drop k) = X) ∧ Ext w wr) (fun _ i _ => N - (intOf i).toNat)
  case atStart => exact ⟨0, n, by omega, h0, h1, rfl, rfl, HX, Mod.refl _ _⟩
  case round =>
    obtain ⟨k, j, hk, j0, j1, rfl, rfl, HE, hx⟩ := hrel
    by_cases hlt : k < N
    · have hlt' : (k : Int) < (N : Int) := by omega
      have hk0 : (0 : Int) ≤ (k : Int) := by omega
      have hlk : k < l.length := by rw [← HN.out]; exact hlt
      obtain ⟨b1, o1, rfl⟩ := Hr.out.some (by omega)
      have hd := HE.out
      rw [List.drop_eq_getElem_cons hlk] at hd
      have hc := fun w' (h : Ext w w') => reads_sp (Hr.out.mod h (fun _ _ f => f)) (List.getElem?_eq_getElem hlk)
      generalize l[k] = x at *
      have HD := Lib.hid hd
      obtain ⟨p, q⟩ := x
      clear hlk hd
      have HS := Lib.hid (fun w' (hw' : Ext wr w') => (⟨(hc w' (hx.ext_trans hw')).1, (hc w' (hx.ext_trans hw')).2, trivial, trivial⟩ : w'.cell? ⟨b1, o1 + k * 2, none⟩ = some (.string p) ∧ w'.cell? ⟨b1, o1 + k * 2 + 1, none⟩ = some (.string q) ∧ True ∧ True))
      clear hc
      go_wp2_with fail
      refine wp_region_E (by kernel_rfl) ?_
      refine wpE_take 0 18 (v := ?_) rfl rfl (by kernel_rfl) (by kernel_rfl) (by kernel_rfl) (fun _ _ _ h => h) (by first | exact ext_draw _ | assumption) rfl ?_ ?_
      rotate_left
      · intro w' hw'
        refine qat_value ?_
        go_simp
        rfl
      simp only [Act.put, List.setIfInBounds_toArray, List.set_cons_zero, List.set_cons_succ]
      refine wpE_take 1 19 (v := ?_) rfl rfl (by kernel_rfl) (by kernel_rfl) (by kernel_rfl) (fun _ _ _ h => h) (by first | exact ext_draw _ | assumption) rfl ?_ ?_
      rotate_left
      · intro w' hw'
        refine qat_value ?_
        go_simp
        rfl
      simp only [Act.put, List.setIfInBounds_toArray, List.set_cons_zero, List.set_cons_succ]
      refine wpE_take 2 20 (v := ?_) rfl rfl (by kernel_rfl) (by kernel_rfl) (by kernel_rfl) (fun _ _ _ h => h) (by first | exact ext_draw _ | assumption) rfl ?_ ?_
      rotate_left
      · intro w' hw'
        refine qat_value ?_
        go_simp
        rfl
      simp only [Act.put, List.setIfInBounds_toArray, List.set_cons_zero, List.set_cons_succ]
      refine wpE_take 3 21 (v := ?_) rfl rfl (by kernel_rfl) (by kernel_rfl) (by kernel_rfl) (fun _ _ _ h => h) (by first | exact ext_draw _ | assumption) rfl ?_ ?_
      rotate_left
      · intro w' hw'
        refine qat_value ?_
        go_simp
        rfl
      simp only [Act.put, List.setIfInBounds_toArray, List.set_cons_zero, List.set_cons_succ]
      refine wpE_take 4 22 (v := ?_) rfl rfl (by kernel_rfl) (by kernel_rfl) (by kernel_rfl) (fun _ _ _ h => h) (by first | exact ext_draw _ | assumption) rfl ?_ ?_
      rotate_left
      · intro w' hw'
        refine qat_value ?_
        go_simp
        rfl
      simp only [Act.put, List.setIfInBounds_toArray, List.set_cons_zero, List.set_cons_succ]
      refine wpE_take 5 23 (v := ?_) rfl rfl (by kernel_rfl) (by kernel_rfl) (by kernel_rfl) (fun _ _ _ h => h) (by first | exact ext_draw _ | assumption) rfl ?_ ?_
      rotate_left
      · intro w' hw'
        obtain ⟨r0, r1, r2, r3⟩ := HS.out w' hw'
        refine qat_value ?_
        go_simp
        rfl
      simp only [Act.put, List.setIfInBounds_toArray, List.set_cons_zero, List.set_cons_succ]
      refine wpE_take 6 24 (v := ?_) rfl rfl (by kernel_rfl) (by kernel_rfl) (by kernel_rfl) (fun _ _ _ h => h) (by first | exact ext_draw _ | assumption) rfl ?_ ?_
      rotate_left
      · intro w' hw'
        refine qat_value ?_
        go_simp
        rfl
      simp only [Act.put, List.setIfInBounds_toArray, List.set_cons_zero, List.set_cons_succ]
      refine wpE_take 7 25 (v := ?_) rfl rfl (by kernel_rfl) (by kernel_rfl) (by kernel_rfl) (fun _ _ _ h => h) (by first | exact ext_draw _ | assumption) rfl ?_ ?_
      rotate_left
      · intro w' hw'
        refine qat_value ?_
        go_simp
        rfl
      simp only [Act.put, List.setIfInBounds_toArray, List.set_cons_zero, List.set_cons_succ]
      refine wpE_take 8 26 (v := ?_) rfl rfl (by kernel_rfl) (by kernel_rfl) (by kernel_rfl) (fun _ _ _ h => h) (by first | exact ext_draw _ | assumption) rfl ?_ ?_
      rotate_left
      · intro w' hw'
        refine qat_value ?_
        go_simp
        rfl
      simp only [Act.put, List.setIfInBounds_toArray, List.set_cons_zero, List.set_cons_succ]
      refine wpE_take 9 27 (v := ?_) rfl rfl (by kernel_rfl) (by kernel_rfl) (by kernel_rfl) (fun _ _ _ h => h) (by first | exact ext_draw _ | assumption) rfl ?_ ?_
      rotate_left
      · intro w' hw'
        refine qat_value ?_
        go_simp
        rfl
      simp only [Act.put, List.setIfInBounds_toArray, List.set_cons_zero, List.set_cons_succ]
      refine wpE_take 10 28 (v := ?_) rfl rfl (by kernel_rfl) (by kernel_rfl) (by kernel_rfl) (fun _ _ _ h => h) (by first | exact ext_draw _ | assumption) rfl ?_ ?_
      rotate_left
      · intro w' hw'
        obtain ⟨r0, r1, r2, r3⟩ := HS.out w' hw'
        refine qat_value ?_
        go_simp
        rfl
      simp only [Act.put, List.setIfInBounds_toArray, List.set_cons_zero, List.set_cons_succ]
      refine wpE_all (rs := [11]) (by kernel_rfl) (by simp) fun i hi u hu => ?_
      obtain rfl : i = 11 := by simpa using hi
      have hxu := (ext_draw wr).ext_trans hu
      refine wpOp_run (v := .slice (some ⟨u.heap.size, 0, none⟩) 2 2) (w' := u.alloc (.cells #[.string p, .string q] 9)) rfl rfl (by go_simp) ⟨(hxu.alloc _), ?_⟩
      have hrn := Reads.new u 9 #[.string p, .string q] 1 2 rfl
      have hxn := hxu.alloc (.cells #[.string p, .string q] 9)
      have hun : Ext u (u.alloc (.cells #[.string p, .string q] 9)) := (Mod.refl _ u).alloc _
      generalize u.alloc (.cells #[.string p, .string q] 9) = u2 at *
      simp only [Act.put, List.setIfInBounds_toArray, List.set_cons_zero, List.set_cons_succ]
      refine wpE_call1 12 30 rfl rfl rfl (by kernel_rfl) (fun w' => by go_simp; exact ⟨rfl, rfl⟩) ?_
      intro u3 hu3
      refine (long_some j u.heap.size 0 2 [p, q] u3 (hrn.mod hu3 (fun _ _ f => f)) (by simp) (by omega) (by omega)).mono ?_
      rintro e u4 ⟨rfl, rfl⟩
      refine ⟨_, rfl, hxn.ext_trans hu3, ?_⟩
      simp only [Act.put, List.setIfInBounds_toArray, List.set_cons_zero, List.set_cons_succ]
      refine wpE_done (by kernel_rfl) (fun u5 hu5 => ?_) _
      have hx5 := hx.ext_trans ((hxn.ext_trans hu3).ext_trans hu5)
      obtain ⟨c0, c1, _, _⟩ := HS.out u5 ((hxn.ext_trans hu3).ext_trans hu5)
      have hbl := World.block_lt_of_cell? _ _ c0
      clear hrn hxn hun hu3 hu5 hxu hu hi
      cases hb : longB j [p, q] with
      | true =>
        have HF := Lib.hid (show X = true by rw [← HD.out]; unfold envR; exact if_pos hb)
        clear hb
        go_wp2_with fail
        go_ret
        exact ⟨by rw [HF.out]; rfl, hx5⟩
      | false =>
        have h2 := long2 hb j0
        have HV := Lib.hid (show envR (j - p.size - q.size) (l.drop (k + 1)) = X by rw [← HD.out]; exact (if_neg (by rw [hb]; decide)).symm)
        clear hb
        have e1 : IntKind.i64.wrap (j - (p.size : Int)) = j - p.size := IntWalk.i64_in _ (by omega)
        have e2 : IntKind.i64.wrap (j - (p.size : Int) - q.size) = j - p.size - q.size := IntWalk.i64_in _ (by omega)
        go_wp2_with fail
        go_quiet (fail)
        go_wp2_with fail
        go_roundw
        case rel => exact ⟨k + 1, j - p.size - q.size, by omega, by omega, by omega, by go_num, rfl, HV, hx5.drewN _⟩
        case measure => simp [intOf]; omega
    · have hlt' : ¬ (k : Int) < (N : Int) := by omega
      have HF := Lib.hid (show X = false by rw [← HE.out, List.drop_of_length_le (by rw [← HN.out]; omega)]; rfl)
      go_wp2_with fail
      go_ret
      exact ⟨by rw [HF.out]; rfl, hx⟩
end Go.Proofs.YtmecdhbiinpepaaDoor

/- What package rope's weld computes, of any two trees. Conditions: at most 1000000 bytes together. -/
import Derived.Test.YthlmgoagnfkhdaaGreatGimG15
import Derived.Deep.DeepCutAuto
import Derived.Deep.CutBlock
import Derived.Outline
set_option maxHeartbeats 6400000
set_option maxRecDepth 1000000
set_option linter.unusedVariables false
set_option linter.unusedSimpArgs false
namespace Go.Proofs.YthlmgoagnfkhdaaGreat
open Go.RowKit Go.Gim
def MidA (D : Dice) (A0 : List Nat) (w0 : World) (tx : List UInt8) (a : T) (m : ByteArray) (b : T) (w : World) : Prop :=
 WeldAt D A0 w0 a b w ∧ Pcs a.owns ∧ Pcs b.owns ∧ Ahead a.owns m.data.toList ∧ m.data.toList ≠ [] ∧ join a.owns ++ (m.data.toList ++ join b.owns) = tx ∧ a.size + m.size + b.size ≤ 1000000
def TakeA (a : T) (m : ByteArray) (c : Bool) : Prop := (c = true → a.isNil = false ∧ lastLen a.owns + m.size ≤ 64) ∧ (c = false → a.isNil = true ∨ 64 < lastLen a.owns + m.size)
def TakeB (m : ByteArray) (b : T) (c : Bool) : Prop := (c = true → b.isNil = false ∧ (m.size - 1) % 64 + 1 + firstLen b.owns ≤ 64) ∧ (c = false → b.isNil = true ∨ 64 < (m.size - 1) % 64 + 1 + firstLen b.owns)
theorem lastLen_le64 {l : List ByteArray} (h : Sized l) : lastLen l ≤ 64 := by
 by_cases hn : l = []
 ·subst hn; simp [lastLen]
 ·obtain ⟨q, x, rfl⟩ : ∃ q x, l = q ++ [x] := ⟨l.dropLast, l.getLast hn, (List.dropLast_concat_getLast hn).symm⟩
  rw [lastLen_single]; exact (h x (by simp)).2
theorem firstLen_le64 {l : List ByteArray} (h : Sized l) : firstLen l ≤ 64 := by
 cases l with
 | nil => simp [firstLen]
 | cons x r => exact (h x (by simp)).2
theorem weld_g (D : Dice) (a b : T) (m : ByteArray) (w : World) (hI : WeldIn D a m b w)
  (hN : m.data.toList ≠ [] ∨ (a.isNil = false ∧ b.isNil = false ∧ lastLen a.owns + firstLen b.owns ≤ 64)) :
  Calls Tryz.prog 71 #[.pointer (some ⟨D.d, 0, none⟩), .pointer a.addr, .string m, .pointer b.addr] w (WeldPost D a m b w) := by
 have HN := Lib.hid hN
 clear hN
 go_enter Tryz.func71, Tryz.ntmps71
 go_upto_region 1 with fail
 go_cut [1, 3, 31] (fun p q s wx => p = .pointer a.addr ∧ q = .pointer b.addr ∧ s = .bool false ∧ w = wx)
 case first =>
  by_cases he : m.toList.isEmpty = true
  ·obtain ⟨ha, hb, hs⟩ := HN.out.resolve_left (fun h => h (by rw [ByteArray.toList_eq] at he; simpa using he))
   have hla := last_any a w hI.start.ta ha
   have hfi := first_any b w hI.start.tb hb
   obtain ⟨c, hc⟩ := node_addr ha
   obtain ⟨d, hd⟩ := node_addr hb
   rw [hc] at hla ⊢
   rw [hd] at hfi ⊢
   have Hc := Lib.hid hc
   have Hd := Lib.hid hd
   clear ha hc hb hd
   generalize lastLen a.owns = x at *
   generalize firstLen b.owns = y at *
   have hs' : decide ((64 : Int) < (x : Int) + (y : Int)) = false := by simp; omega
   go_wp2_with fail
   refine hla.mono ?_
   rintro e w1 ⟨rfl, rfl⟩
   go_wp2_with fail
   refine hfi.mono ?_
   rintro e w2 ⟨rfl, rfl⟩
   go_wp2_with fail
   go_meet
   case rel => exact ⟨by rw [Hc.out], by rw [Hd.out], rfl, rfl⟩
  ·have he' : m.toList.isEmpty = false := by simpa using he
   clear he
   go_wp2_with fail
   go_meet
   case rel => exact ⟨rfl, rfl, rfl, rfl⟩
 case rest =>
  obtain ⟨rfl, rfl, rfl, rfl⟩ := hcut
  go_upto_region 3 with fail
  go_cut [1, 44] (fun p s wx => ∃ c : Bool, p = .pointer a.addr ∧ s = .bool c ∧ w = wx ∧ Hid (TakeA a m c))
  case first =>
   by_cases ha : a.isNil = true
   ·have e : a.addr = none := by cases a with
     | nil => rfl
     | node => simp [T.isNil] at ha
    rw [e]
    have E := Lib.hid e
    have Ha := Lib.hid ha
    clear e ha
    go_wp2_with fail
    go_meet
    case rel => exact ⟨false, by rw [E.out], rfl, rfl, Lib.hid ⟨(fun h => by cases h), fun _ => .inl Ha.out⟩⟩
   ·have ha2 : a.isNil = false := by simpa using ha
    obtain ⟨c, hc⟩ := node_addr ha2
    have hla := last_any a w hI.start.ta ha2
    have hx := lastLen_le64 hI.ga.1
    have hsz := hI.size
    rw [hc] at hla ⊢
    have Hc := Lib.hid hc
    have Ha := Lib.hid ha2
    clear ha ha2 hc
    generalize hx2 : lastLen a.owns = x at *
    have Hx := Lib.hid hx2
    clear hx2
    by_cases hs : (x : Int) + (m.size : Int) ≤ 64
    ·go_wp2_with fail
     refine hla.mono ?_
     rintro e w1 ⟨rfl, rfl⟩
     go_wp2_with fail
     go_meet
     case rel => exact ⟨true, by rw [Hc.out], rfl, rfl, Lib.hid ⟨fun _ => ⟨Ha.out, by rw [Hx.out]; omega⟩, fun h => by cases h⟩⟩
    ·have hs' : decide ((x : Int) + (m.size : Int) ≤ 64) = false := by simpa using hs
     go_wp2_with fail
     refine hla.mono ?_
     rintro e w1 ⟨rfl, rfl⟩
     go_wp2_with fail
     go_meet
     case rel => exact ⟨false, by rw [Hc.out], rfl, rfl, Lib.hid ⟨(fun h => by cases h), fun _ => .inr (by rw [Hx.out]; omega)⟩⟩
  case rest =>
   obtain ⟨c, rfl, rfl, rfl, hT⟩ := hcut
   go_upto_if 44 with fail
   go_cut [1, 2] (fun p q wx => ∃ (a' : T) (m' : ByteArray), p = .pointer a'.addr ∧ q = .string m' ∧ Hid (MidA D (a.blocks ++ b.blocks) w (join a.owns ++ (m.data.toList ++ join b.owns)) a' m' b wx))
   case first =>
    have hsz := hI.size
    cases c with
    | false =>
     have hm2 : m.data.toList ≠ [] := HN.out.elim id (fun h => (by
      rcases hT.out.2 rfl with h1 | h1
      ·rw [h.1] at h1; cases h1
      ·intro hm
       have h2 := lastLen_le64 hI.ga.1
       have h3 : m.data.toList.length = m.size := rfl
       rw [hm] at h3
       simp only [List.length_nil] at h3
       omega))
     have hA : Ahead a.owns m.data.toList := Ahead.not hI.ga ((hT.out.2 rfl).imp (fun h => by cases a with
       | nil => rfl
       | node => simp [T.isNil] at h) (fun h => h))
     have HA := Lib.hid hA
     have Hm := Lib.hid hm2
     clear hA hm2
     go_wp2_with fail
     go_meet
     case rel => exact ⟨a, m, rfl, rfl, Lib.hid ⟨hI.start, hI.ga, hI.gb, HA.out, Hm.out, rfl, hI.size⟩⟩
    | true =>
     obtain ⟨ha, hl⟩ := hT.out.1 rfl
     have hon : a.owns ≠ [] := by cases a with
      | nil => simp [T.isNil] at ha
      | node => simp [T.owns]
     have hll := lastLen_le hon
     rw [← T.size_join] at hll
     have hso := size_any a w hI.start.ta
     have hla := last_any a w hI.start.ta ha
     have hen := ends_any a ((a.size : Int) - (lastLen a.owns : Int)) w hI.start.ta (List.nodup_append.1 hI.start.nd).1 (by omega) (by omega) (by omega)
     have Hon := Lib.hid hon
     clear ha hon
     generalize hx : lastLen a.owns = x at *
     have Hx := Lib.hid hx
     clear hx
     go_wp2_with fail
     refine hso.mono ?_
     rintro e w1 ⟨rfl, rfl⟩
     go_wp2_with fail
     refine hla.mono ?_
     rintro e w1 ⟨rfl, rfl⟩
     go_wp2_with fail
     refine hen.mono ?_
     rintro e w1 ⟨l, r, rfl, hP, hC, hl, hr, hm⟩
     obtain ⟨y, hy, hys⟩ := ends_last hP hI.ga.1 Hon.out (by rw [Hx.out]; exact hC)
     cases r with
     | nil => simp [T.owns] at hy
     | node rb ro rp rl rr =>
      have hro := T.root_of_one hy
      subst hro
      obtain ⟨_, c4, _⟩ := Blk.node hr.1
      have Hy := Lib.hid hy
      have Hys := Lib.hid hys
      have hcat : ro.size + m.size ≤ 1000000 := by have := Hx.out; omega
      clear hy hys
      have HW := Lib.hid (hI.start.less hI.dice hI.off hP hl hm)
      have HP := Lib.hid hP
      clear hP hC hr hm hl
      rw [show (T.node rb ro rp rl rr).addr = some ⟨rb, 0, none⟩ from rfl]
      go_wp2_with fail
      go_quiet (fail)
      go_wp2_with fail
      go_meet
      case rel =>
       have hg : Pcs (l.owns ++ [ro]) := by rw [← Hy.out, ← HP.out.owns]; exact hI.ga
       obtain ⟨h1, h2, h3⟩ := Ahead.took (m := m.data.toList) hg (by have : m.data.toList.length = m.size := rfl; have h := Hys.out; rw [Hx.out] at h; omega)
       have hsz2 := HP.out.size
       have hrs : (T.node rb ro rp rl rr).size = ro.size := by rw [T.size_join, Hy.out]; simp only [join, List.flatMap_cons, List.flatMap_nil, List.append_nil]; rfl
       refine ⟨l, _, rfl, rfl, Lib.hid ⟨HW.out.drewN _, h2, hI.gb, ?_, ?_, ?_, ?_⟩⟩
       ·simpa using h1
       ·simpa using h3
       ·rw [HP.out.owns, Hy.out]; simp [join]
       ·simp; omega
   case rest =>
    obtain ⟨a', m', rfl, rfl, hM⟩ := hcut
    clear hT
    obtain ⟨wz, hwz⟩ : ∃ wz : World, wz = wc := ⟨_, rfl⟩
    rw [← hwz] at hM ⊢
    clear hwz
    go_upto_region 6 with fail
    go_cut [3, 74] (fun p s wx => ∃ c : Bool, p = .pointer b.addr ∧ s = .bool c ∧ wz = wx ∧ Hid (TakeB m' b c))
    case first =>
     obtain ⟨hW, hga, hgb, hA, hmn, hjo, hsz⟩ := hM.out
     have hml : 1 ≤ m'.size := by
      have h3 : m'.data.toList.length = m'.size := rfl
      have h4 := List.length_pos_iff.2 hmn
      omega
     clear hA hmn hjo hga
     by_cases hb : b.isNil = true
     ·have e : b.addr = none := by cases b with
       | nil => rfl
       | node => simp [T.isNil] at hb
      rw [e]
      have E := Lib.hid e
      have Hb := Lib.hid hb
      clear e hb
      go_wp2_with fail
      go_meet
      case rel => exact ⟨false, by rw [E.out], rfl, rfl, Lib.hid ⟨(fun h => by cases h), fun _ => .inl Hb.out⟩⟩
     ·have hb2 : b.isNil = false := by simpa using hb
      obtain ⟨c, hc⟩ := node_addr hb2
      have hfi := first_any b wz hW.tb hb2
      have hx := firstLen_le64 hgb.1
      rw [hc] at hfi ⊢
      have Hc := Lib.hid hc
      have Hb := Lib.hid hb2
      clear hb hb2 hc
      generalize hx2 : firstLen b.owns = x at *
      have Hx := Lib.hid hx2
      clear hx2
      by_cases hs : ((m'.size : Int) - 1) % 64 + 1 + (x : Int) ≤ 64
      ·go_wp2_with fail
       refine hfi.mono ?_
       rintro e w1 ⟨rfl, rfl⟩
       go_wp2_with fail
       go_meet
       case rel => exact ⟨true, by rw [Hc.out], rfl, rfl, Lib.hid ⟨fun _ => ⟨Hb.out, by rw [Hx.out]; omega⟩, fun h => by cases h⟩⟩
      ·have hs' : decide (((m'.size : Int) - 1) % 64 + 1 + (x : Int) ≤ 64) = false := by simpa using hs
       go_wp2_with fail
       refine hfi.mono ?_
       rintro e w1 ⟨rfl, rfl⟩
       go_wp2_with fail
       go_meet
       case rel => exact ⟨false, by rw [Hc.out], rfl, rfl, Lib.hid ⟨(fun h => by cases h), fun _ => .inr (by rw [Hx.out]; omega)⟩⟩
    case rest =>
     obtain ⟨c, rfl, rfl, rfl, hT⟩ := hcut
     go_upto_if 74 with fail
     go_cut [2, 3] (fun q p wx => ∃ (m2 : ByteArray) (b2 : T), q = .string m2 ∧ p = .pointer b2.addr ∧ Hid (Round D (a.blocks ++ b.blocks) w (join a.owns ++ (m.data.toList ++ join b.owns)) a' m2 b2 wx))
     case first =>
      obtain ⟨hW, hga, hgb, hA, hmn, hjo, hsz⟩ := hM.out
      have hml : 1 ≤ m'.size := by
       have h3 : m'.data.toList.length = m'.size := rfl
       have h4 := List.length_pos_iff.2 hmn
       omega
      have HA := Lib.hid hA
      have Hmn := Lib.hid hmn
      have Hjo := Lib.hid hjo
      clear hA hmn hjo
      cases c with
      | false =>
       have hB : Behind m'.data.toList b.owns := by
        rcases hT.out.2 rfl with h | h
        ·refine .inl ?_
         cases b with
         | nil => rfl
         | node => simp [T.isNil] at h
        ·exact .inr h
       have HB := Lib.hid hB
       clear hB
       go_wp2_with fail
       go_meet
       case rel => exact ⟨m', b, rfl, rfl, Lib.hid ⟨hW, .of hga hgb Hmn.out HA.out HB.out, Hjo.out, hsz⟩⟩
      | true =>
       obtain ⟨hb, hl⟩ := hT.out.1 rfl
       have hon : b.owns ≠ [] := by cases b with
        | nil => simp [T.isNil] at hb
        | node => simp [T.owns]
       have hbe := begins_any b 1 wz hW.tb (List.nodup_append.1 hW.nd).2.1 (by omega) (by omega) (by omega)
       have Hon := Lib.hid hon
       clear hb hon
       generalize hx : firstLen b.owns = x at *
       have Hx := Lib.hid hx
       clear hx
       go_wp2_with fail
       refine hbe.mono ?_
       rintro e w1 ⟨l, r, rfl, hP, hC, hl2, hr, hm⟩
       obtain ⟨y, hy, hys⟩ := begins_one hP hgb.1 Hon.out hC
       cases l with
       | nil => simp [T.owns] at hy
       | node rb ro rp rl rr =>
        have hro := T.root_of_one hy
        subst hro
        obtain ⟨_, c4, _⟩ := Blk.node hl2.1
        have Hy := Lib.hid hy
        have Hys := Lib.hid hys
        have hcat : m'.size + ro.size ≤ 1000000 := by have := Hx.out; omega
        clear hy hys
        have HW := Lib.hid (hW.less' hI.dice hI.off hP hr hm)
        have HP := Lib.hid hP
        clear hP hC hr hm hl2
        rw [show (T.node rb ro rp rl rr).addr = some ⟨rb, 0, none⟩ from rfl]
        go_wp2_with fail
        go_meet
        case rel =>
         have hg : Pcs (ro :: r.owns) := by
          have h := HP.out.owns
          rw [Hy.out] at h
          rw [show ro :: r.owns = [ro] ++ r.owns from rfl, ← h]; exact hgb
         obtain ⟨h1, h2⟩ := Behind.took (m := m'.data.toList) hg Hmn.out (by have : m'.data.toList.length = m'.size := rfl; have h := Hys.out; rw [Hx.out] at h; omega)
         have hsz2 := HP.out.size
         have hrs : (T.node rb ro rp rl rr).size = ro.size := by rw [T.size_join, Hy.out]; simp only [join, List.flatMap_cons, List.flatMap_nil, List.append_nil]; rfl
         refine ⟨_, r, rfl, rfl, Lib.hid ⟨HW.out, J.of hga h2 ?_ ?_ ?_, ?_, ?_⟩⟩
         ·simp [Hmn.out]
         ·simpa using HA.out.more (k := ro.data.toList)
         ·simpa using h1
         ·rw [← Hjo.out, HP.out.owns, Hy.out]; simp [join]
         ·simp; omega
     case rest =>
      obtain ⟨m2, b2, rfl, rfl, HR0⟩ := hcut
      clear hT hM
      go_wp2_with fail
      go_loopw [1, 2] (fun p q wr => ∃ (a' : T) (m' : ByteArray), p = .pointer a'.addr ∧ q = .string m' ∧ Hid (Round D (a.blocks ++ b.blocks) w (join a.owns ++ (m.data.toList ++ join b.owns)) a' m' b2 wr)) (fun _ q _ => match q with | .string s => s.size | _ => 0)
      case atStart => exact ⟨a', m2, rfl, rfl, HR0⟩
      case round =>
       clear HR0
       obtain ⟨a', m', rfl, rfl, HR⟩ := hrel
       by_cases hz : 0 < m'.size
       ·have hz' : (0 : Int) < (m'.size : Int) := by omega
        obtain ⟨hW, hJ, hT, hS⟩ := HR.out
        have hT' := Lib.hid hT
        clear hT
        obtain ⟨E, hE, hEl⟩ := hW.dice
        have hd0 : D.d = E.d := hEl.1.symm
        have Hd0 := Lib.hid hd0
        clear hd0
        go_wp2_with fail
        case inl =>
         have hfr := fresh_any E (m'.extract 0 64) wr hE (by simp; omega)
         rw [← Hd0.out] at hfr
         refine hfr.mono ?_
         rintro e w1 ⟨c, rfl, hc, hn, hE1, hm1⟩
         go_wp2_with fail
         have ha1 : TreeAt w1 a' := hW.ta.mod hm1 (fun k hk e => (hW.off hI.dice hI.off k (List.mem_append_left _ hk)).1 (e.trans hEl.1))
         refine (merge_any _ a' (.node c (m'.extract 0 64) E.tells .nil .nil) (Nat.le_refl _) w1 ha1 hn (hW.fits hc _ _) (by rw [one_size]; simp; omega)).mono ?_
         rintro e w2 ⟨t, rfl, hM, ht, hm2⟩
         go_wp2_with fail
         go_roundw
         case rel =>
          refine ⟨t, m'.extract 64 m'.size, rfl, rfl, Lib.hid (Round.step HR.out hI.dice hI.off hEl ?_ ?_ ?_ hc hn hE1 hm1 hM ht hm2)⟩
          ·intro h0; have h1 : m'.data.toList.length = m'.size := rfl; rw [h0] at h1; simp only [List.length_nil] at h1; omega
          ·rw [ByteArray.data_extract]; simp [List.extract_eq_take_drop]
          ·rw [ByteArray.data_extract]; simp [List.extract_eq_take_drop]; rw [List.take_of_length_le]; simp
         case measure => simp; omega
        case inr =>
         have hfr := fresh_any E m' wr hE (by omega)
         rw [← Hd0.out] at hfr
         refine hfr.mono ?_
         rintro e w1 ⟨c, rfl, hc, hn, hE1, hm1⟩
         go_wp2_with fail
         have ha1 : TreeAt w1 a' := hW.ta.mod hm1 (fun k hk e => (hW.off hI.dice hI.off k (List.mem_append_left _ hk)).1 (e.trans hEl.1))
         refine (merge_any _ a' (.node c m' E.tells .nil .nil) (Nat.le_refl _) w1 ha1 hn (hW.fits hc _ _) (by rw [one_size]; omega)).mono ?_
         rintro e w2 ⟨t, rfl, hM, ht, hm2⟩
         go_wp2_with fail
         go_roundw
         case rel =>
          have h1 : m'.data.toList.length = m'.size := rfl
          refine ⟨t, ByteArray.empty, rfl, rfl, Lib.hid (Round.step HR.out hI.dice hI.off hEl ?_ ?_ ?_ hc hn hE1 hm1 hM ht hm2)⟩
          ·intro h0; rw [h0] at h1; simp only [List.length_nil] at h1; omega
          ·exact (List.take_of_length_le (by omega)).symm
          ·exact (List.drop_eq_nil_of_le (by omega)).symm
         case measure => simp; omega
       ·have hz' : ¬ (0 : Int) < (m'.size : Int) := by omega
        obtain ⟨hW, hJ, hT, hS⟩ := HR.out
        have hT' := Lib.hid hT
        clear hT
        go_wp2_with fail
        refine (merge_any _ a' b2 (Nat.le_refl _) wr hW.ta hW.tb hW.nd (by omega)).mono ?_
        rintro e w2 ⟨t, rfl, hM, ht, hm2⟩
        go_wp2_with fail
        go_ret
        have h1 : m'.data.toList = [] := List.length_eq_zero_iff.1 (by rw [toList_length]; omega)
        refine ⟨t, rfl, ?_, ?_, hW.merged hI.dice hI.off hM ht hm2⟩
        ·rw [hM.owns, join_append]
         have h2 := hT'.out
         rw [h1, List.nil_append] at h2
         exact h2
        ·rw [hM.owns]
         rw [h1] at hJ
         exact hJ.done
theorem weld_any (D : Dice) (a b : T) (m : ByteArray) (w : World) (h : WeldIn D a m b w) :
  Calls Tryz.prog 71 #[.pointer (some ⟨D.d, 0, none⟩), .pointer a.addr, .string m, .pointer b.addr] w (WeldPost D a m b w) := by
 by_cases hm : m.data.toList = []
 ·have he : m.toList.isEmpty = true := by rw [ByteArray.toList_eq, hm]; rfl
  cases ha : a.isNil with
  | true =>
   cases a with
   | nil => exact weld_a D b m w h he hm
   | node => simp [T.isNil] at ha
  | false =>
   cases hb : b.isNil with
   | true =>
    cases b with
    | nil => exact weld_b D a m w h he hm ha
    | node => simp [T.isNil] at hb
   | false =>
    by_cases hs : lastLen a.owns + firstLen b.owns ≤ 64
    ·exact weld_g D a b m w h (.inr ⟨ha, hb, hs⟩)
    ·exact weld_c D a b m w h he hm ha hb (by omega) (by have := lastLen_le64 h.ga.1; have := firstLen_le64 h.gb.1; omega)
 ·exact weld_g D a b m w h (.inl hm)
end Go.Proofs.YthlmgoagnfkhdaaGreat

/- What package rope's weld computes. Conditions: at most 1000000 bytes together. -/
import Derived.Test.YtmecdhbiinpepaaDoorGimPackD
namespace Go.Proofs.YtmecdhbiinpepaaDoor
open Go.RowKit Go.Gim

def WeldPost (D : Dice) (a : T) (m : ByteArray) (b : T) (w : World) (e : Ending) (w' : World) : Prop :=
  ∃ t, e = .returned (.pointer t.addr) ∧ join t.owns = join a.owns ++ (m.data.toList ++ join b.owns) ∧ Pcs t.owns ∧ WeldAt D (a.blocks ++ b.blocks) w t .nil w'

structure WeldIn (D : Dice) (a : T) (m : ByteArray) (b : T) (w : World) : Prop where
  start : WeldAt D (a.blocks ++ b.blocks) w a b w
  dice : DiceAt w D
  off : D.Off (a.blocks ++ b.blocks)
  ga : Pcs a.owns
  gb : Pcs b.owns
  size : a.size + m.size + b.size ≤ 1000000

theorem WeldIn.post {D : Dice} {a b t : T} {m : ByteArray} {w w2 : World} (h : WeldIn D a m b w) (hm : m.data.toList = []) (hg : Pcs (a.owns ++ b.owns)) (hM : Merged a b t) (ht : TreeAt w2 t) (hmod : Mod (· ∈ a.blocks ++ b.blocks) w w2) : WeldPost D a m b w (.returned (.pointer t.addr)) w2 :=
  ⟨t, rfl, by rw [hM.owns, join_append, hm, List.nil_append], by rw [hM.owns]; exact hg, h.start.merged h.dice h.off hM ht hmod⟩

set_option maxHeartbeats 3200000 in
set_option maxRecDepth 1000000 in
theorem weld_a (D : Dice) (b : T) (m : ByteArray) (w : World) (h : WeldIn D .nil m b w) (hm : m.toList.isEmpty = true) (hm2 : m.data.toList = []) :
    Calls Tryd.prog 53 #[.pointer (some ⟨D.d, 0, none⟩), .pointer none, .string m, .pointer b.addr] w (WeldPost D .nil m b w) := by
  have Hm := Lib.hid hm2
  clear hm2
  go_enter Tryd.func53, Tryd.ntmps53
  go_wp2_with fail
  refine (merge_any _ .nil b (Nat.le_refl _) _ trivial h.start.tb h.start.nd (by have := h.size; omega)).mono ?_
  rintro e w1 ⟨t, rfl, hM, ht, hmod⟩
  go_wp2_with fail
  go_ret
  exact h.post Hm.out (by simpa [T.owns] using h.gb) hM ht hmod

theorem node_addr {t : T} (h : t.isNil = false) : ∃ b, t.addr = some ⟨b, 0, none⟩ := by
  cases t with
  | nil => simp [T.isNil] at h
  | node b own p l r => exact ⟨b, rfl⟩

set_option maxHeartbeats 3200000 in
set_option maxRecDepth 1000000 in
theorem weld_b (D : Dice) (a : T) (m : ByteArray) (w : World) (h : WeldIn D a m .nil w) (hm : m.toList.isEmpty = true) (hm2 : m.data.toList = []) (ha : a.isNil = false) :
    Calls Tryd.prog 53 #[.pointer (some ⟨D.d, 0, none⟩), .pointer a.addr, .string m, .pointer none] w (WeldPost D a m .nil w) := by
  have Hm := Lib.hid hm2
  clear hm2
  have hme := merge_any _ a .nil (Nat.le_refl _) w h.start.ta trivial h.start.nd (by have := h.size; omega)
  obtain ⟨c, hc⟩ := node_addr ha
  rw [hc] at hme ⊢
  clear ha hc
  go_enter Tryd.func53, Tryd.ntmps53
  go_wp2_with fail
  refine hme.mono ?_
  rintro e w1 ⟨t, rfl, hM, ht, hmod⟩
  go_wp2_with fail
  go_ret
  exact h.post Hm.out (by simpa [T.owns] using h.ga) hM ht hmod

set_option maxHeartbeats 3200000 in
set_option maxRecDepth 1000000 in
theorem weld_c (D : Dice) (a b : T) (m : ByteArray) (w : World) (h : WeldIn D a m b w) (hm : m.toList.isEmpty = true) (hm2 : m.data.toList = []) (ha : a.isNil = false) (hb : b.isNil = false)
    (hj : 64 < lastLen a.owns + firstLen b.owns) (hj2 : lastLen a.owns + firstLen b.owns ≤ 1000) :
    Calls Tryd.prog 53 #[.pointer (some ⟨D.d, 0, none⟩), .pointer a.addr, .string m, .pointer b.addr] w (WeldPost D a m b w) := by
  have Hm := Lib.hid hm2
  have hg : Pcs (a.owns ++ b.owns) := good_append.2 ⟨h.ga, h.gb, fun _ _ => hj⟩
  clear hm2
  have hme := merge_any _ a b (Nat.le_refl _) w h.start.ta h.start.tb h.start.nd (by have := h.size; omega)
  have hla := last_any a w h.start.ta ha
  have hfi := first_any b w h.start.tb hb
  obtain ⟨c, hc⟩ := node_addr ha
  obtain ⟨d, hd⟩ := node_addr hb
  rw [hc, hd] at hme ⊢
  rw [hc] at hla
  rw [hd] at hfi
  clear ha hc hb hd
  generalize lastLen a.owns = x at *
  generalize firstLen b.owns = y at *
  go_enter Tryd.func53, Tryd.ntmps53
  go_wp2_with fail
  refine hla.mono ?_
  rintro e w1 ⟨rfl, rfl⟩
  go_wp2_with fail
  refine hfi.mono ?_
  rintro e w2 ⟨rfl, rfl⟩
  go_wp2_with fail
  refine hme.mono ?_
  rintro e w1 ⟨t, rfl, hM, ht, hmod⟩
  go_wp2_with fail
  go_ret
  exact h.post Hm.out hg hM ht hmod

/-- What a round of weld's loop starts from. -/
def Round (D : Dice) (A0 : List Nat) (w0 : World) (tx : List UInt8) (a : T) (m : ByteArray) (b : T) (w : World) : Prop :=
  WeldAt D A0 w0 a b w ∧ J a.owns m.data.toList b.owns ∧ join a.owns ++ (m.data.toList ++ join b.owns) = tx ∧ a.size + m.size + b.size ≤ 1000000

theorem Round.step {D0 : Dice} {A0 : List Nat} {w0 w w1 w2 : World} {tx : List UInt8} {a b t : T} {m s m2 : ByteArray} (h : Round D0 A0 w0 tx a m b w) (hD : DiceAt w0 D0) (ho : D0.Off A0) {D : Dice} (hDl : Dice.Like D D0) (hm : m.data.toList ≠ [])
    (hx : s.data.toList = m.data.toList.take 64) (hx2 : m2.data.toList = m.data.toList.drop 64)
    {c : Nat} (hc : w.heap.size ≤ c) (ht : TreeAt w1 (.node c s D.tells .nil .nil)) (hD1 : DiceAt w1 D.then) (hm1 : Mod (· = D.d) w w1)
    (hM : Merged a (.node c s D.tells .nil .nil) t) (ht2 : TreeAt w2 t) (hm2 : Mod (· ∈ a.blocks ++ (T.node c s D.tells .nil .nil).blocks) w1 w2) : Round D0 A0 w0 tx t m2 b w2 := by
  obtain ⟨hW, hJ, hT, hS⟩ := h
  have ho1 : t.owns = a.owns ++ [s] := by rw [hM.owns]; rfl
  have hl := T.size_two hM.owns
  have e1 : (T.node c s D.tells .nil .nil).size = s.size := by rw [T.size_join]; simp only [T.owns, List.nil_append, join, List.flatMap_cons, List.flatMap_nil, List.append_nil]; rfl
  have e2 : s.size + m2.size = m.size := by
    have h1 : s.data.toList.length = s.size := rfl
    have h2 : m2.data.toList.length = m2.size := rfl
    have h3 : m.data.toList.length = m.size := rfl
    rw [← h1, ← h2, ← h3, hx, hx2, ← List.length_append, List.take_append_drop]
  refine ⟨hW.step hD ho hDl hc ht hD1 hm1 hM ht2 hm2, ?_, ?_, by omega⟩
  · rw [ho1, hx2]; exact hJ.step hm s hx
  · rw [ho1, join_append, join_cons, hx, hx2, ← hT]
    simp only [join, List.flatMap_nil, List.append_nil, List.append_assoc]
    rw [← List.append_assoc (m.data.toList.take 64), List.take_append_drop]

/-- What merge asks of a tree and a fresh piece. -/
theorem WeldAt.fits {D0 : Dice} {A0 : List Nat} {w0 w : World} {a b : T} (h : WeldAt D0 A0 w0 a b w) {c : Nat} (hc : w.heap.size ≤ c) (s : ByteArray) (p : Int) : (a.blocks ++ (T.node c s p .nil .nil).blocks).Nodup := by
  rw [show (T.node c s p .nil .nil).blocks = [c] from rfl]
  refine List.nodup_append.2 ⟨(List.nodup_append.1 h.nd).1, by simp, fun k hk k2 hk2 e => ?_⟩
  simp at hk2
  have := h.ta.lt k hk
  omega
theorem one_size (c : Nat) (s : ByteArray) (p : Int) : (T.node c s p .nil .nil).size = s.size := by
  rw [T.size_join]; simp only [T.owns, List.nil_append, join, List.flatMap_cons, List.flatMap_nil, List.append_nil]; rfl

set_option maxHeartbeats 3200000 in
set_option maxRecDepth 1000000 in
theorem weld_d (D : Dice) (m : ByteArray) (w : World) (hI : WeldIn D .nil m .nil w) (hm : m.toList.isEmpty = false) (hm2 : m.data.toList ≠ []) :
    Calls Tryd.prog 53 #[.pointer (some ⟨D.d, 0, none⟩), .pointer none, .string m, .pointer none] w (WeldPost D .nil m .nil w) := by
  have Hm := Lib.hid hm2
  clear hm2
  go_enter Tryd.func53, Tryd.ntmps53
  go_wp2_with fail
  go_loopw [1, 2] (fun p q wr => ∃ (a' : T) (m' : ByteArray), p = .pointer a'.addr ∧ q = .string m' ∧ Hid (Round D (T.nil.blocks ++ T.nil.blocks) w (m.data.toList) a' m' .nil wr)) (fun _ q _ => match q with | .string s => s.size | _ => 0)
  case atStart => exact ⟨.nil, m, rfl, rfl, Lib.hid ⟨hI.start, .of good_nil good_nil Hm.out (.inl rfl) (.inl rfl), by simp [T.owns, join], hI.size⟩⟩
  case round =>
    obtain ⟨a', m', rfl, rfl, HR⟩ := hrel
    by_cases hz : 0 < m'.size
    · have hz' : (0 : Int) < (m'.size : Int) := by omega
      obtain ⟨hW, hJ, hT, hS⟩ := HR.out
      obtain ⟨E, hE, hEl⟩ := hW.dice
      have hd0 : D.d = E.d := hEl.1.symm
      have Hd0 := Lib.hid hd0
      clear hd0
      go_wp2_with fail
      case inl =>
        have hfr := fresh_any E (m'.extract 0 64) wr hE (by simp; omega)
        rw [← Hd0.out] at hfr
        refine hfr.mono ?_
        rintro e w1 ⟨c, rfl, hc, hn, hE1, hm1⟩
        go_wp2_with fail
        have ha1 : TreeAt w1 a' := hW.ta.mod hm1 (fun k hk e => (hW.off hI.dice hI.off k (List.mem_append_left _ hk)).1 (e.trans hEl.1))
        refine (merge_any _ a' (.node c (m'.extract 0 64) E.tells .nil .nil) (Nat.le_refl _) w1 ha1 hn (hW.fits hc _ _) (by rw [one_size]; simp; omega)).mono ?_
        rintro e w2 ⟨t, rfl, hM, ht, hm2⟩
        go_wp2_with fail
        go_roundw
        case rel =>
          refine ⟨t, m'.extract 64 m'.size, rfl, rfl, Lib.hid (Round.step HR.out hI.dice hI.off hEl ?_ ?_ ?_ hc hn hE1 hm1 hM ht hm2)⟩
          · intro h0; have h1 : m'.data.toList.length = m'.size := rfl; rw [h0] at h1; simp only [List.length_nil] at h1; omega
          · rw [ByteArray.data_extract]; simp [List.extract_eq_take_drop]
          · rw [ByteArray.data_extract]; simp [List.extract_eq_take_drop]; rw [List.take_of_length_le]; simp
        case measure => simp; omega
      case inr =>
        have hfr := fresh_any E m' wr hE (by omega)
        rw [← Hd0.out] at hfr
        refine hfr.mono ?_
        rintro e w1 ⟨c, rfl, hc, hn, hE1, hm1⟩
        go_wp2_with fail
        have ha1 : TreeAt w1 a' := hW.ta.mod hm1 (fun k hk e => (hW.off hI.dice hI.off k (List.mem_append_left _ hk)).1 (e.trans hEl.1))
        refine (merge_any _ a' (.node c m' E.tells .nil .nil) (Nat.le_refl _) w1 ha1 hn (hW.fits hc _ _) (by rw [one_size]; omega)).mono ?_
        rintro e w2 ⟨t, rfl, hM, ht, hm2⟩
        go_wp2_with fail
        go_roundw
        case rel =>
          have h1 : m'.data.toList.length = m'.size := rfl
          refine ⟨t, ByteArray.empty, rfl, rfl, Lib.hid (Round.step HR.out hI.dice hI.off hEl ?_ ?_ ?_ hc hn hE1 hm1 hM ht hm2)⟩
          · intro h0; rw [h0] at h1; simp only [List.length_nil] at h1; omega
          · exact (List.take_of_length_le (by omega)).symm
          · exact (List.drop_eq_nil_of_le (by omega)).symm
        case measure => simp; omega
    · have hz' : ¬ (0 : Int) < (m'.size : Int) := by omega
      obtain ⟨hW, hJ, hT, hS⟩ := HR.out
      have hT' := Lib.hid hT
      clear hT
      go_wp2_with fail
      refine (merge_any _ a' .nil (Nat.le_refl _) wr hW.ta hW.tb hW.nd (by omega)).mono ?_
      rintro e w2 ⟨t, rfl, hM, ht, hm2⟩
      go_wp2_with fail
      go_ret
      have h1 : m'.data.toList = [] := List.length_eq_zero_iff.1 (by rw [toList_length]; omega)
      refine ⟨t, rfl, ?_, ?_, hW.merged hI.dice hI.off hM ht hm2⟩
      · rw [hM.owns, join_append]
        have h2 := hT'.out
        rw [h1, List.nil_append] at h2
        rw [h2]; simp [T.owns, join]
      · rw [hM.owns]
        rw [h1] at hJ
        exact hJ.done

end Go.Proofs.YtmecdhbiinpepaaDoor

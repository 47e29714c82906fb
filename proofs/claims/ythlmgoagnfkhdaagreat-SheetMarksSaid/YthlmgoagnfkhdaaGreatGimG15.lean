/- What package rope's first and last compute: the lengths of a tree's outer pieces. Conditions: none. -/
import Derived.Test.YthlmgoagnfkhdaaGreatGimG13
import Derived.Test.YthlmgoagnfkhdaaGreatGimG01
import Derived.Deep.LoopGhost
set_option maxHeartbeats 6400000
set_option maxRecDepth 1000000
set_option linter.unusedVariables false
set_option linter.unusedSimpArgs false
namespace Go.Proofs.YthlmgoagnfkhdaaGreat
open Go.RowKit Go.Gim
theorem last_any (t : T) (w : World) (h : TreeAt w t) (hn : t.isNil = false) : Calls Tryz.prog 104 #[.pointer t.addr] w fun e w' => e = .returned (.int .i64 (lastLen t.owns : Nat)) ∧ w' = w := by
 generalize hL : lastLen t.owns = L
 have HL := Lib.hid hL
 clear hL
 go_enter Tryz.func104, Tryz.ntmps104
 go_wp2_with fail
 go_loopg [0] t.count (fun k p wr => ∃ u : T, p = .pointer u.addr ∧ u.isNil = false ∧ u.count = k ∧ wr = w ∧ TreeAt w u ∧ Hid (lastLen u.owns = L))
 case atStart => exact ⟨t, rfl, hn, rfl, rfl, h, HL⟩
 case round =>
  clear h hn HL
  obtain ⟨u, rfl, hu, hk, rfl, hT, HL⟩ := hrel
  cases u with
  | nil => simp [T.isNil] at hu
  | node b own p ul ur =>
   obtain ⟨_, c4, _, _, _, c11⟩ := Blk.node hT.1
   clear hu
   cases ur with
   | nil =>
    have e : own.size = L := by
     have h1 := HL.out
     simp only [T.owns] at h1
     rw [lastLen_single] at h1
     exact h1
    have E := Lib.hid e
    clear e HL
    simp only [T.addr] at c11 ⊢
    go_wp2_with fail
    go_ret
    exact ⟨ret_int (by rw [E.out]), rfl⟩
   | node b2 own2 p2 ul2 ur2 =>
    have e : lastLen (T.node b2 own2 p2 ul2 ur2).owns = L := by
     have h1 := HL.out
     rw [← h1]
     simp only [T.owns]
     rw [lastLen_append_cons, lastLen_append_cons]
     cases hq : ul2.owns with
     | nil => rw [List.nil_append, lastLen_cons_cons]
     | cons x q => rw [List.cons_append, lastLen_cons_cons, ← List.cons_append, lastLen_append_cons]
    have E := Lib.hid e
    have K := Lib.hid hk
    have hT2 := hT.2.2
    clear e HL hk
    simp only [T.addr] at c11 ⊢
    go_wp2_with fail
    go_roundg ((T.node b2 own2 p2 ul2 ur2).count)
    case rel => exact ⟨_, rfl, rfl, rfl, rfl, hT2, E⟩
    case measure => have := K.out; simp only [T.count] at this ⊢; omega
theorem first_any (t : T) (w : World) (h : TreeAt w t) (hn : t.isNil = false) : Calls Tryz.prog 105 #[.pointer t.addr] w fun e w' => e = .returned (.int .i64 (firstLen t.owns : Nat)) ∧ w' = w := by
 generalize hL : firstLen t.owns = L
 have HL := Lib.hid hL
 clear hL
 go_enter Tryz.func105, Tryz.ntmps105
 go_wp2_with fail
 go_loopg [0] t.count (fun k p wr => ∃ u : T, p = .pointer u.addr ∧ u.isNil = false ∧ u.count = k ∧ wr = w ∧ TreeAt w u ∧ Hid (firstLen u.owns = L))
 case atStart => exact ⟨t, rfl, hn, rfl, rfl, h, HL⟩
 case round =>
  clear h hn HL
  obtain ⟨u, rfl, hu, hk, rfl, hT, HL⟩ := hrel
  cases u with
  | nil => simp [T.isNil] at hu
  | node b own p ul ur =>
   obtain ⟨_, c4, _, _, c11, _⟩ := Blk.node hT.1
   clear hu
   cases ul with
   | nil =>
    have e : own.size = L := by
     have h1 := HL.out
     simp only [T.owns] at h1
     exact h1
    have E := Lib.hid e
    clear e HL
    simp only [T.addr] at c11 ⊢
    go_wp2_with fail
    go_ret
    exact ⟨ret_int (by rw [E.out]), rfl⟩
   | node b2 own2 p2 ul2 ur2 =>
    have e : firstLen (T.node b2 own2 p2 ul2 ur2).owns = L := by
     have h1 := HL.out
     rw [← h1]
     rw [show (T.node b own p (T.node b2 own2 p2 ul2 ur2) ur).owns = (T.node b2 own2 p2 ul2 ur2).owns ++ own :: ur.owns from rfl, firstLen_append (by simp [T.owns])]
    have E := Lib.hid e
    have K := Lib.hid hk
    have hT2 := hT.2.1
    clear e HL hk
    simp only [T.addr] at c11 ⊢
    go_wp2_with fail
    go_roundg ((T.node b2 own2 p2 ul2 ur2).count)
    case rel => exact ⟨_, rfl, rfl, rfl, rfl, hT2, E⟩
    case measure => have := K.out; simp only [T.count] at this ⊢; omega
def Dice.Like (D E : Dice) : Prop := D.d = E.d ∧ D.sv = E.sv ∧ D.nums = E.nums
theorem Dice.Like.refl (D : Dice) : Dice.Like D D := ⟨rfl, rfl, rfl⟩
theorem Dice.Like.then {D E : Dice} (h : Dice.Like D E) : Dice.Like D.then E := by
 unfold Dice.then; split
 ·exact h
 ·exact h
theorem Dice.Like.trans {D E F : Dice} (h : Dice.Like D E) (k : Dice.Like E F) : Dice.Like D F := ⟨h.1.trans k.1, h.2.1.trans k.2.1, h.2.2.trans k.2.2⟩
def Dice.Off (D : Dice) (A : List Nat) : Prop := ∀ k ∈ A, k ≠ D.d ∧ D.sv.ownBlock ≠ some k
theorem Dice.Off.like {D E : Dice} {A : List Nat} (h : E.Off A) (hl : Dice.Like D E) : D.Off A := by
 intro k hk
 rw [hl.1, hl.2.1]; exact h k hk
theorem DiceAt.lt {w : World} {D : Dice} (h : DiceAt w D) : D.d < w.heap.size ∧ ∀ k, D.sv.ownBlock = some k → k < w.heap.size :=
 ⟨h.blk.lt, fun k hk => (h.row.lt k hk).2⟩
theorem DiceAt.off {w w' : World} {D : Dice} {A : List Nat} (h : DiceAt w D) (ho : D.Off A) (hm : Mod (· ∈ A) w w') : DiceAt w' D :=
 h.mod hm (fun hk => (ho _ hk).1 rfl) (fun k hk hA => (ho k hA).2 hk)
structure WeldAt (D0 : Dice) (A0 : List Nat) (w0 : World) (a b : T) (w : World) : Prop where
 ta : TreeAt w a
 tb : TreeAt w b
 nd : (a.blocks ++ b.blocks).Nodup
 ha : a.Heap
 hb : b.Heap
 la : a.Le 4294967295
 lb : b.Le 4294967295
 old : ∀ k, k ∈ a.blocks ++ b.blocks → k ∈ A0 ∨ w0.heap.size ≤ k
 mod : Mod (fun k => k ∈ A0 ∨ k = D0.d) w0 w
 dice : ∃ D, DiceAt w D ∧ Dice.Like D D0
theorem WeldAt.off {D0 : Dice} {A0 : List Nat} {w0 w : World} {a b : T} (h : WeldAt D0 A0 w0 a b w) (hD : DiceAt w0 D0) (ho : D0.Off A0) : D0.Off (a.blocks ++ b.blocks) := by
 intro k hk
 rcases h.old k hk with h1 | h1
 ·exact ho k h1
 ·have := hD.lt
  refine ⟨fun e => ?_, fun e => ?_⟩
  ·omega
  ·have := this.2 k e; omega
theorem WeldAt.step {D0 : Dice} {A0 : List Nat} {w0 w w1 w2 : World} {a b t : T} (h : WeldAt D0 A0 w0 a b w) (hD : DiceAt w0 D0) (ho : D0.Off A0) {D : Dice} (hDl : Dice.Like D D0)
  {c : Nat} {s : ByteArray} (hc : w.heap.size ≤ c) (ht : TreeAt w1 (.node c s D.tells .nil .nil)) (hD1 : DiceAt w1 D.then) (hm1 : Mod (· = D.d) w w1)
  (hM : Merged a (.node c s D.tells .nil .nil) t) (ht2 : TreeAt w2 t) (hm2 : Mod (· ∈ a.blocks ++ (T.node c s D.tells .nil .nil).blocks) w1 w2) : WeldAt D0 A0 w0 t b w2 := by
 have hoff := h.off hD ho
 have hcs : (T.node c s D.tells .nil .nil).blocks = [c] := rfl
 rw [hcs] at hm2
 have hMb := hM.blocks
 rw [hcs] at hMb
 have hnd := List.nodup_append.1 h.nd
 have hcb : c ∉ b.blocks := fun hk => by have := h.tb.lt c hk; omega
 have hca : c ∉ a.blocks := fun hk => by have := h.ta.lt c hk; omega
 have hw0 := h.mod.size
 have hDlt := hD.lt
 have hDd : D.d = D0.d := hDl.1
 refine ⟨ht2, ?_, ?_, ?_, h.hb, hM.le _ h.la (Dice.tells_le (by rw [hDl.2.2]; exact hD.wf)), h.lb, ?_, ?_, ?_⟩
 ·refine (h.tb.mod hm1 (fun k hk e => (hoff k (List.mem_append_right _ hk)).1 (e.trans hDd))).mod hm2 (fun k hk hk2 => ?_)
  rcases List.mem_append.1 hk2 with hk2 | hk2
  ·exact hnd.2.2 k hk2 k hk rfl
  ·simp at hk2; subst hk2; exact hcb hk
 ·refine List.nodup_append.2 ⟨hMb.nodup_iff.2 (List.nodup_append.2 ⟨hnd.1, by simp, fun k hk k2 hk2 e => ?_⟩), hnd.2.1, fun k hk k2 hk2 e => ?_⟩
  ·simp at hk2; subst e; subst hk2; exact hca hk
  ·subst e
   rcases List.mem_append.1 (hMb.mem_iff.1 hk) with h1 | h1
   ·exact hnd.2.2 k h1 k hk2 rfl
   ·simp at h1; subst h1; exact hcb hk2
 ·exact hM.heap h.ha ⟨trivial, trivial, trivial, trivial⟩
 ·intro k hk
  rcases List.mem_append.1 hk with hk | hk
  ·rcases List.mem_append.1 (hMb.mem_iff.1 hk) with h1 | h1
   ·exact h.old k (List.mem_append_left _ h1)
   ·simp at h1; subst h1; exact .inr (by omega)
  ·exact h.old k (List.mem_append_right _ hk)
 ·refine Mod.trans (Mod.trans h.mod hm1 (fun i _ e => .inr (e.trans hDd))) hm2 (fun i hi hk => ?_)
  rcases List.mem_append.1 hk with h1 | h1
  ·rcases h.old i (List.mem_append_left _ h1) with h2 | h2
   ·exact .inl h2
   ·omega
  ·simp at h1; omega
 ·refine ⟨D.then, hD1.off ?_ hm2, hDl.then⟩
  have hl := hDl.then
  intro k hk
  rw [hl.1, hl.2.1]
  rcases List.mem_append.1 hk with h1 | h1
  ·exact hoff k (List.mem_append_left _ h1)
  ·simp at h1; subst h1
   refine ⟨fun e => by omega, fun e => ?_⟩
   have := hDlt.2 _ e; omega
theorem WeldAt.drewN {D0 : Dice} {A0 : List Nat} {w0 w : World} {a b : T} (h : WeldAt D0 A0 w0 a b w) (n : Nat) : WeldAt D0 A0 w0 a b (w.drewN n) :=
 ⟨h.ta.drewN n, h.tb.drewN n, h.nd, h.ha, h.hb, h.la, h.lb, h.old, h.mod.drewN n, let ⟨D, hD, hl⟩ := h.dice; ⟨D, hD.drewN n, hl⟩⟩
theorem WeldAt.start {D : Dice} {w : World} {a b : T} (ta : TreeAt w a) (tb : TreeAt w b) (nd : (a.blocks ++ b.blocks).Nodup) (ha : a.Heap) (hb : b.Heap) (la : a.Le 4294967295) (lb : b.Le 4294967295) (hD : DiceAt w D) : WeldAt D (a.blocks ++ b.blocks) w a b w :=
 ⟨ta, tb, nd, ha, hb, la, lb, fun _ hk => .inl hk, Mod.refl _ _, D, hD, .refl D⟩
theorem WeldAt.merged {D0 : Dice} {A0 : List Nat} {w0 w w2 : World} {a b t : T} (h : WeldAt D0 A0 w0 a b w) (hD : DiceAt w0 D0) (ho : D0.Off A0) (hM : Merged a b t) (ht : TreeAt w2 t) (hm : Mod (· ∈ a.blocks ++ b.blocks) w w2) : WeldAt D0 A0 w0 t .nil w2 := by
 have hoff := h.off hD ho
 obtain ⟨D, hD1, hl⟩ := h.dice
 refine ⟨ht, trivial, ?_, hM.heap h.ha h.hb, trivial, hM.le _ h.la h.lb, trivial, ?_, ?_, D, hD1.off (hoff.like hl) hm, hl⟩
 ·rw [show t.blocks ++ T.nil.blocks = t.blocks from List.append_nil _]; exact hM.blocks.nodup_iff.2 h.nd
 ·intro k hk
  rw [show t.blocks ++ T.nil.blocks = t.blocks from List.append_nil _] at hk
  exact h.old k (hM.blocks.mem_iff.1 hk)
 ·refine Mod.trans h.mod hm (fun i hi hk => ?_)
  rcases h.old i hk with h2 | h2
  ·exact .inl h2
  ·omega
theorem WeldAt.less {D0 : Dice} {A0 : List Nat} {w0 w w2 : World} {a b l r : T} (h : WeldAt D0 A0 w0 a b w) (hD : DiceAt w0 D0) (ho : D0.Off A0) (hP : Parted a l r) (ht : TreeAt w2 l) (hm : Mod (· ∈ a.blocks) w w2) : WeldAt D0 A0 w0 l b w2 := by
 have hoff := h.off hD ho
 have hnd := List.nodup_append.1 h.nd
 obtain ⟨D, hD1, hl⟩ := h.dice
 have hla : ∀ k, k ∈ l.blocks → k ∈ a.blocks := fun k hk => hP.blocks.mem_iff.1 (List.mem_append_left _ hk)
 refine ⟨ht, h.tb.mod hm (fun k hk hk2 => hnd.2.2 k hk2 k hk rfl), ?_, (hP.heap h.ha).1, h.hb, (hP.le h.ha _ h.la).1, h.lb, ?_, ?_, D, ?_, hl⟩
 ·refine List.nodup_append.2 ⟨(List.nodup_append.1 (hP.blocks.nodup_iff.2 hnd.1)).1, hnd.2.1, fun k hk k2 hk2 e => hnd.2.2 k (hla k hk) k2 hk2 e⟩
 ·intro k hk
  rcases List.mem_append.1 hk with hk | hk
  ·exact h.old k (List.mem_append_left _ (hla k hk))
  ·exact h.old k (List.mem_append_right _ hk)
 ·refine Mod.trans h.mod hm (fun i hi hk => ?_)
  rcases h.old i (List.mem_append_left _ hk) with h2 | h2
  ·exact .inl h2
  ·omega
 ·exact hD1.off (A := a.blocks) (fun k hk => (hoff.like hl) k (List.mem_append_left _ hk)) hm
theorem WeldAt.less' {D0 : Dice} {A0 : List Nat} {w0 w w2 : World} {a b l r : T} (h : WeldAt D0 A0 w0 a b w) (hD : DiceAt w0 D0) (ho : D0.Off A0) (hP : Parted b l r) (ht : TreeAt w2 r) (hm : Mod (· ∈ b.blocks) w w2) : WeldAt D0 A0 w0 a r w2 := by
 have hoff := h.off hD ho
 have hnd := List.nodup_append.1 h.nd
 obtain ⟨D, hD1, hl⟩ := h.dice
 have hrb : ∀ k, k ∈ r.blocks → k ∈ b.blocks := fun k hk => hP.blocks.mem_iff.1 (List.mem_append_right _ hk)
 refine ⟨h.ta.mod hm (fun k hk hk2 => hnd.2.2 k hk k hk2 rfl), ht, ?_, h.ha, (hP.heap h.hb).2, h.la, (hP.le h.hb _ h.lb).2, ?_, ?_, D, ?_, hl⟩
 ·refine List.nodup_append.2 ⟨hnd.1, (List.nodup_append.1 (hP.blocks.nodup_iff.2 hnd.2.1)).2.1, fun k hk k2 hk2 e => hnd.2.2 k hk k2 (hrb k2 hk2) e⟩
 ·intro k hk
  rcases List.mem_append.1 hk with hk | hk
  ·exact h.old k (List.mem_append_left _ hk)
  ·exact h.old k (List.mem_append_right _ (hrb k hk))
 ·refine Mod.trans h.mod hm (fun i hi hk => ?_)
  rcases h.old i (List.mem_append_right _ hk) with h2 | h2
  ·exact .inl h2
  ·omega
 ·exact hD1.off (A := b.blocks) (fun k hk => (hoff.like hl) k (List.mem_append_right _ hk)) hm
def WeldPost (D : Dice) (a : T) (m : ByteArray) (b : T) (w : World) (e : Ending) (w' : World) : Prop :=
 ∃ t, e = .returned (.pointer t.addr) ∧ join t.owns = join a.owns ++ (m.data.toList ++ join b.owns) ∧ Pcs t.owns ∧ WeldAt D (a.blocks ++ b.blocks) w t .nil w'
structure WeldIn (D : Dice) (a : T) (m : ByteArray) (b : T) (w : World) : Prop where
 start : WeldAt D (a.blocks ++ b.blocks) w a b w
 dice : DiceAt w D
 off : D.Off (a.blocks ++ b.blocks)
 ga : Pcs a.owns
 gb : Pcs b.owns
 size : a.size + m.size + b.size ≤ 1000000
theorem WeldIn.post {D : Dice} {a b t : T} {m : ByteArray} {w w2 : World} (h : WeldIn D a m b w) (hm : m.data.toList = []) (hg : Pcs (a.owns ++ b.owns)) (hM : Merged a b t) (ht : TreeAt w2 t) (hmod : Mod (· ∈ a.blocks ++ b.blocks) w w2) : WeldPost D a m b w (.returned (.pointer t.addr)) w2 :=
 ⟨t, rfl, by rw [hM.owns, join_append, hm, List.nil_append], by rw [hM.owns]; exact hg, h.start.merged h.dice h.off hM ht hmod⟩
theorem weld_a (D : Dice) (b : T) (m : ByteArray) (w : World) (h : WeldIn D .nil m b w) (hm : m.toList.isEmpty = true) (hm2 : m.data.toList = []) :
  Calls Tryz.prog 71 #[.pointer (some ⟨D.d, 0, none⟩), .pointer none, .string m, .pointer b.addr] w (WeldPost D .nil m b w) := by
 have Hm := Lib.hid hm2
 clear hm2
 go_enter Tryz.func71, Tryz.ntmps71
 go_wp2_with fail
 refine (merge_any _ .nil b (Nat.le_refl _) _ trivial h.start.tb h.start.nd (by have := h.size; omega)).mono ?_
 rintro e w1 ⟨t, rfl, hM, ht, hmod⟩
 go_wp2_with fail
 go_ret
 exact h.post Hm.out (by simpa [T.owns] using h.gb) hM ht hmod
theorem node_addr {t : T} (h : t.isNil = false) : ∃ b, t.addr = some ⟨b, 0, none⟩ := by
 cases t with
 | nil => simp [T.isNil] at h
 | node b own p l r => exact ⟨b, rfl⟩
theorem weld_b (D : Dice) (a : T) (m : ByteArray) (w : World) (h : WeldIn D a m .nil w) (hm : m.toList.isEmpty = true) (hm2 : m.data.toList = []) (ha : a.isNil = false) :
  Calls Tryz.prog 71 #[.pointer (some ⟨D.d, 0, none⟩), .pointer a.addr, .string m, .pointer none] w (WeldPost D a m .nil w) := by
 have Hm := Lib.hid hm2
 clear hm2
 have hme := merge_any _ a .nil (Nat.le_refl _) w h.start.ta trivial h.start.nd (by have := h.size; omega)
 obtain ⟨c, hc⟩ := node_addr ha
 rw [hc] at hme ⊢
 clear ha hc
 go_enter Tryz.func71, Tryz.ntmps71
 go_wp2_with fail
 refine hme.mono ?_
 rintro e w1 ⟨t, rfl, hM, ht, hmod⟩
 go_wp2_with fail
 go_ret
 exact h.post Hm.out (by simpa [T.owns] using h.ga) hM ht hmod
theorem weld_c (D : Dice) (a b : T) (m : ByteArray) (w : World) (h : WeldIn D a m b w) (hm : m.toList.isEmpty = true) (hm2 : m.data.toList = []) (ha : a.isNil = false) (hb : b.isNil = false)
  (hj : 64 < lastLen a.owns + firstLen b.owns) (hj2 : lastLen a.owns + firstLen b.owns ≤ 1000) :
  Calls Tryz.prog 71 #[.pointer (some ⟨D.d, 0, none⟩), .pointer a.addr, .string m, .pointer b.addr] w (WeldPost D a m b w) := by
 have Hm := Lib.hid hm2
 have hg : Pcs (a.owns ++ b.owns) := good_append.2 ⟨h.ga, h.gb, fun _ _ => hj⟩
 clear hm2
 have hme := merge_any _ a b (Nat.le_refl _) w h.start.ta h.start.tb h.start.nd (by have := h.size; omega)
 have hla := last_any a w h.start.ta ha
 have hfi := first_any b w h.start.tb hb
 obtain ⟨c, hc⟩ := node_addr ha
 obtain ⟨d, hd⟩ := node_addr hb
 rw [hc, hd] at hme ⊢
 rw [hc] at hla
 rw [hd] at hfi
 clear ha hc hb hd
 generalize lastLen a.owns = x at *
 generalize firstLen b.owns = y at *
 go_enter Tryz.func71, Tryz.ntmps71
 go_wp2_with fail
 refine hla.mono ?_
 rintro e w1 ⟨rfl, rfl⟩
 go_wp2_with fail
 refine hfi.mono ?_
 rintro e w2 ⟨rfl, rfl⟩
 go_wp2_with fail
 refine hme.mono ?_
 rintro e w1 ⟨t, rfl, hM, ht, hmod⟩
 go_wp2_with fail
 go_ret
 exact h.post Hm.out hg hM ht hmod
def Round (D : Dice) (A0 : List Nat) (w0 : World) (tx : List UInt8) (a : T) (m : ByteArray) (b : T) (w : World) : Prop :=
 WeldAt D A0 w0 a b w ∧ J a.owns m.data.toList b.owns ∧ join a.owns ++ (m.data.toList ++ join b.owns) = tx ∧ a.size + m.size + b.size ≤ 1000000
theorem Round.step {D0 : Dice} {A0 : List Nat} {w0 w w1 w2 : World} {tx : List UInt8} {a b t : T} {m s m2 : ByteArray} (h : Round D0 A0 w0 tx a m b w) (hD : DiceAt w0 D0) (ho : D0.Off A0) {D : Dice} (hDl : Dice.Like D D0) (hm : m.data.toList ≠ [])
  (hx : s.data.toList = m.data.toList.take 64) (hx2 : m2.data.toList = m.data.toList.drop 64)
  {c : Nat} (hc : w.heap.size ≤ c) (ht : TreeAt w1 (.node c s D.tells .nil .nil)) (hD1 : DiceAt w1 D.then) (hm1 : Mod (· = D.d) w w1)
  (hM : Merged a (.node c s D.tells .nil .nil) t) (ht2 : TreeAt w2 t) (hm2 : Mod (· ∈ a.blocks ++ (T.node c s D.tells .nil .nil).blocks) w1 w2) : Round D0 A0 w0 tx t m2 b w2 := by
 obtain ⟨hW, hJ, hT, hS⟩ := h
 have ho1 : t.owns = a.owns ++ [s] := by rw [hM.owns]; rfl
 have hl := T.size_two hM.owns
 have e1 : (T.node c s D.tells .nil .nil).size = s.size := by rw [T.size_join]; simp only [T.owns, List.nil_append, join, List.flatMap_cons, List.flatMap_nil, List.append_nil]; rfl
 have e2 : s.size + m2.size = m.size := by
  have h1 : s.data.toList.length = s.size := rfl
  have h2 : m2.data.toList.length = m2.size := rfl
  have h3 : m.data.toList.length = m.size := rfl
  rw [← h1, ← h2, ← h3, hx, hx2, ← List.length_append, List.take_append_drop]
 refine ⟨hW.step hD ho hDl hc ht hD1 hm1 hM ht2 hm2, ?_, ?_, by omega⟩
 ·rw [ho1, hx2]; exact hJ.step hm s hx
 ·rw [ho1, join_append, join_cons, hx, hx2, ← hT]
  simp only [join, List.flatMap_nil, List.append_nil, List.append_assoc]
  rw [← List.append_assoc (m.data.toList.take 64), List.take_append_drop]
theorem WeldAt.fits {D0 : Dice} {A0 : List Nat} {w0 w : World} {a b : T} (h : WeldAt D0 A0 w0 a b w) {c : Nat} (hc : w.heap.size ≤ c) (s : ByteArray) (p : Int) : (a.blocks ++ (T.node c s p .nil .nil).blocks).Nodup := by
 rw [show (T.node c s p .nil .nil).blocks = [c] from rfl]
 refine List.nodup_append.2 ⟨(List.nodup_append.1 h.nd).1, by simp, fun k hk k2 hk2 e => ?_⟩
 simp at hk2
 have := h.ta.lt k hk
 omega
theorem one_size (c : Nat) (s : ByteArray) (p : Int) : (T.node c s p .nil .nil).size = s.size := by
 rw [T.size_join]; simp only [T.owns, List.nil_append, join, List.flatMap_cons, List.flatMap_nil, List.append_nil]; rfl
end Go.Proofs.YthlmgoagnfkhdaaGreat

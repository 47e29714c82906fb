/- What rope's Cut computes. Conditions: a rope of at most 65536 bytes. -/
import Derived.Test.YtbcjlbapgidhiaaGimJoin
namespace Go.Proofs.Ytbcjlbapgidhiaa
open Go.RowKit Go.Gim Go.Lib

/-- Behind Cut: the rope with what is ahead, a new one with the rest. -/
structure CutTo (R R' O : Rp) (s s' : List UInt8) (w w' : World) : Prop where
  rope : RopeAt w' R'
  other : RopeAt w' O
  text : R'.text = s
  rest : O.text = s'
  grew : R.Grew R' w
  odice : O.D = R.D
  onew : w.heap.size ≤ O.rb ∧ ∀ k ∈ O.t.blocks, k ∈ R.t.blocks ∨ w.heap.size ≤ k
  apart : Apart R' O
  mod : Mod R.Foot w w'

def CutPost (R : Rp) (s s' : List UInt8) (w : World) (e : Ending) (w' : World) : Prop := ∃ R' O, e = .returned (.tuple #[.pointer (some ⟨O.rb, 0, none⟩), .int .i64 0]) ∧ CutTo R R' O s s' w w'

/-- The end of Cut: two trees apart, the store of one, a box for the other. -/
theorem cut_end {w w3 : World} {R : Rp} {t u : T} {s s' : List UInt8} (h : RopeAt w R) (hm : Mod (fun k => k ∈ R.t.blocks ∨ k = R.D.d) w w3) (ht : TreeAt w3 t) (hu : TreeAt w3 u) (hnd : (t.blocks ++ u.blocks).Nodup) (hth : t.Heap) (huh : u.Heap) (htl : t.Le 4294967295) (hul : u.Le 4294967295)
    (htp : Pcs t.owns) (hup : Pcs u.owns) (hD : DiceOf w3 R.D) (hold : ∀ k ∈ t.blocks ++ u.blocks, k ∈ R.t.blocks ∨ w.heap.size ≤ k) (hts : t.text = s) (hus : u.text = s') (h1 : t.size ≤ 65536) (h2 : u.size ≤ 65536) :
    CutTo R { R with t := t } ⟨w3.heap.size, R.D, u⟩ s s' w ((w3.setCell ⟨R.rb, 1, none⟩ (.pointer t.addr)).alloc (.cells #[.pointer (some ⟨R.D.d, 0, none⟩), .pointer u.addr] 92)) := by
  have hrt := (List.nodup_cons.1 h.nd).1
  have hrd := h.off R.rb (List.mem_cons_self ..)
  have hdl := h.dlt
  have hsz := hm.size
  have hrl := h.blk.lt
  have hb3 := h.blk.mod hm (fun h => h.elim hrt hrd.1)
  have hset : Mod (· = R.rb) w3 (w3.setCell ⟨R.rb, 1, none⟩ (.pointer t.addr)) := (Mod.refl (· = R.rb) w3).setCell (p := ⟨R.rb, 1, none⟩) (fun _ => rfl) _
  have hx : Ext (w3.setCell ⟨R.rb, 1, none⟩ (.pointer t.addr)) ((w3.setCell ⟨R.rb, 1, none⟩ (.pointer t.addr)).alloc (.cells #[.pointer (some ⟨R.D.d, 0, none⟩), .pointer u.addr] 92)) := (Mod.refl _ _).alloc _
  have hnR : R.rb ∉ t.blocks ++ u.blocks := fun hk => (hold _ hk).elim hrt (fun h => by omega)
  have hoffk : ∀ k, k ∈ R.t.blocks ∨ w.heap.size ≤ k → k ≠ R.D.d ∧ R.D.sv.ownBlock ≠ some k := by
    rintro k (hk | hk)
    · exact h.off k (List.mem_cons_of_mem _ hk)
    · exact ⟨fun e => by have := hdl.1; omega, fun e => by have := hdl.2 k e; omega⟩
  have hnd2 := List.nodup_append.1 hnd
  have hD4 : DiceOf ((w3.setCell ⟨R.rb, 1, none⟩ (.pointer t.addr)).alloc (.cells #[.pointer (some ⟨R.D.d, 0, none⟩), .pointer u.addr] 92)) R.D := by
    obtain ⟨D', k1, k2⟩ := hD
    exact ⟨D', (k1.mod hset (by rw [k2.1]; exact fun e => hrd.1 e.symm) (by rw [k2.2.1]; exact fun k hk e => hrd.2 (e ▸ hk))).ext hx, k2⟩
  have hsz3 : (w3.setCell ⟨R.rb, 1, none⟩ (.pointer t.addr)).heap.size = w3.heap.size := by simp
  refine ⟨⟨(hb3.set 1 _).alloc _, (ht.mod hset (fun k hk e => hnR (e ▸ List.mem_append_left _ hk))).ext hx, List.nodup_cons.2 ⟨fun hk => hnR (List.mem_append_left _ hk), hnd2.1⟩, hth, htl, htp, hD4, ?_, h1⟩,
    ⟨?_, (hu.mod hset (fun k hk e => hnR (e ▸ List.mem_append_right _ hk))).ext hx, ?_, huh, hul, hup, hD4, ?_, h2⟩, hts, hus, ⟨rfl, rfl, fun k hk => hold k (List.mem_append_left _ hk)⟩, rfl, ⟨hsz, fun k hk => hold k (List.mem_append_right _ hk)⟩, ?_, ?_⟩
  · intro k hk
    rcases List.mem_cons.1 hk with rfl | hk
    · exact hrd
    · exact hoffk k (hold k (List.mem_append_left _ hk))
  · have := Blk.new (w3.setCell ⟨R.rb, 1, none⟩ (.pointer t.addr)) 92 #[.pointer (some ⟨R.D.d, 0, none⟩), .pointer u.addr]
    rw [hsz3] at this
    exact this
  · refine List.nodup_cons.2 ⟨fun hk => by have := hu.lt _ hk; simp at this, hnd2.2.1⟩
  · intro k hk
    rcases List.mem_cons.1 hk with rfl | hk
    · exact hoffk _ (.inr hsz)
    · exact hoffk k (hold k (List.mem_append_right _ hk))
  · refine ⟨fun k hk hk2 => ?_, fun k hk => ?_, fun k hk => ?_, .inl (.refl _)⟩
    · rcases List.mem_cons.1 hk with rfl | hk
      · rcases List.mem_cons.1 hk2 with h3 | hk2
        · have h4 : R.rb = w3.heap.size := h3; omega
        · exact hnR (List.mem_append_right _ hk2)
      · rcases List.mem_cons.1 hk2 with h3 | hk2
        · have h4 : k = w3.heap.size := h3; have := ht.lt k hk; omega
        · exact hnd2.2.2 k hk k hk2 rfl
    · rcases List.mem_cons.1 hk with rfl | hk
      · exact hoffk _ (.inr hsz)
      · exact hoffk k (hold k (List.mem_append_right _ hk))
    · rcases List.mem_cons.1 hk with rfl | hk
      · exact hrd
      · exact hoffk k (hold k (List.mem_append_left _ hk))
  · refine Mod.trans (Mod.trans (hm.mono (fun k _ hk => hk.imp (fun h => List.mem_cons_of_mem _ h) id)) hset (fun k _ hk => .inl (by rw [hk]; exact List.mem_cons_self ..))) hx (fun _ _ f => f.elim)

set_option maxHeartbeats 800000 in
set_option maxRecDepth 1000000 in
theorem cut_nil (f : Int) (w : World) : Calls Try.prog 36 #[.pointer none, .int .i64 f] w fun e w' => e = .returned (.tuple #[.pointer none, .int .i64 1]) ∧ w' = w := by
  go_enter Try.func36, Try.ntmps36
  go_wp2_with fail
  go_ret2
  exact ⟨rfl, rfl⟩
set_option maxHeartbeats 800000 in
set_option maxRecDepth 1000000 in
theorem cut_no (R : Rp) (f : Int) (w : World) (h : RopeAt w R) (hn : risesB f f R.t.size = false) : Calls Try.prog 36 #[.pointer (some ⟨R.rb, 0, none⟩), .int .i64 f] w fun e w' => e = .returned (.tuple #[.pointer none, .int .i64 3]) ∧ w' = w := by
  have hr := rises_any R f f w h
  rw [hn] at hr
  clear hn
  go_enter Try.func36, Try.ntmps36
  go_wp2_with fail
  refine hr.mono ?_
  rintro e w' ⟨rfl, rfl⟩
  go_wp2_with fail
  go_ret2
  exact ⟨rfl, rfl⟩

/-- Where ends has parted just there. -/
theorem cut_even {w w1 : World} {R : Rp} {a r : T} {f : Int} (h : RopeAt w R) (hP : Parted R.t a r) (ha : TreeAt w1 a) (hr : TreeAt w1 r) (hm : Mod (· ∈ R.t.blocks) w w1) (hf : (a.size : Int) = f) :
    CutTo R { R with t := a } ⟨w1.heap.size, R.D, r⟩ (R.text.take f.toNat) (R.text.drop f.toNat) w ((w1.setCell ⟨R.rb, 1, none⟩ (.pointer a.addr)).alloc (.cells #[.pointer (some ⟨R.D.d, 0, none⟩), .pointer r.addr] 92)) := by
  obtain ⟨D, hD, hl⟩ := h.dice
  have htx : R.text = a.text ++ r.text := by rw [Rp.text, T.text_owns, hP.owns, join_append, ← T.text_owns, ← T.text_owns]
  have hal : a.text.length = a.size := rfl
  have hsz := hP.size
  have hs := h.size
  have hg := good_append.1 (hP.owns ▸ h.pcs)
  have hh := hP.heap h.heap
  have hle := hP.le h.heap _ h.le
  refine cut_end h (hm.mono (fun k _ hk => .inl hk)) ha hr (hP.blocks.nodup_iff.2 (List.nodup_cons.1 h.nd).2) hh.1 hh.2 hle.1 hle.2 hg.1 hg.2.1 ⟨D, hD.off (A := R.t.blocks) (fun k hk => (h.off.like hl) k (List.mem_cons_of_mem _ hk)) hm, hl⟩ (fun k hk => .inl (hP.blocks.mem_iff.1 hk)) ?_ ?_ (by omega) (by omega)
  · rw [htx, List.take_left' (by omega)]
  · rw [htx, List.drop_left' (by omega)]

set_option maxHeartbeats 3200000 in
set_option maxRecDepth 1000000 in
theorem cut_any (R : Rp) (f : Int) (w : World) (h : RopeAt w R) (hn : risesB f f R.t.size = true) : Calls Try.prog 36 #[.pointer (some ⟨R.rb, 0, none⟩), .int .i64 f] w (CutPost R (R.text.take f.toNat) (R.text.drop f.toNat) w) := by
  obtain ⟨c0, c1, f1, hb⟩ := h.cells
  have hsz := h.size
  obtain ⟨g1, _, g3⟩ := rises_out hn
  have hr := rises_any R f f w h
  rw [hn] at hr
  clear hn
  go_enter Try.func36, Try.ntmps36
  go_wp2_with fail
  refine hr.mono ?_
  rintro e w' ⟨rfl, rfl⟩
  go_wp2_with fail
  refine (ends_any R.t f _ h.tree (List.nodup_cons.1 h.nd).2 (by omega) g1 (by omega)).mono ?_
  rintro e w1 ⟨a, r, rfl, hP, hE, ha, hr2, hm1⟩
  go_wp2_with fail
  refine (size_any a _ ha).mono ?_
  rintro e w2 ⟨rfl, rfl⟩
  have hPs := hP.size
  have hE1 := hE.1
  have HP := Lib.hid hP
  have HE := Lib.hid hE
  have Hm1 := Lib.hid hm1
  have hrb : R.rb ∉ R.t.blocks := (List.nodup_cons.1 h.nd).1
  have hB1 := h.blk.mod hm1 hrb
  clear hP hE c0 c1 f1 hb hr hm1
  have c0 := hB1.cell 0
  have c1 := hB1.cell 1
  have f1 := hB1.free 1
  have hb := hB1.lt
  by_cases hk : (0 : Int) < f - (a.size : Int)
  · have hrn := (List.nodup_append.1 (HP.out.blocks.nodup_iff.2 (List.nodup_cons.1 h.nd).2)).2.1
    have hne : r.owns ≠ [] := fun h0 => by
      have : r.size = 0 := by rw [T.size_join, h0]; rfl
      omega
    have hlt := HE.out.2.resolve_left hne
    have hgP := good_append.1 (HP.out.owns ▸ h.pcs)
    have Hne := Lib.hid hne
    clear hne
    clear c0 c1 f1 hb
    go_wp2_with fail
    refine (begins_any r 1 _ hr2 hrn (by omega) (by omega) (by omega)).mono ?_
    rintro e w3 ⟨c, b, rfl, hQ, hBa, hc, hbb, hm3⟩
    obtain ⟨y, hy, hys⟩ := begins_one hQ hgP.2.1.1 Hne.out hBa
    cases c with
    | nil => simp [T.owns] at hy
    | node cb co cp cl cr =>
      have hco := T.root_of_one hy
      subst hco
      obtain ⟨_, c4, _⟩ := Blk.node hc.1
      have hB3 := hB1.mod hm3 (fun hk => hrb (HP.out.blocks.mem_iff.1 (List.mem_append_right _ hk)))
      have c0 := hB3.cell 0
      have hb := hB3.lt
      have hcs : f - (a.size : Int) < (co.size : Int) := by omega
      have hQs := hQ.size
      have hcsz : (T.node cb co cp cl cr).size = co.size := by rw [T.size_join, hy]; simp only [join, List.flatMap_cons, List.flatMap_nil, List.append_nil]; rfl
      have hco2 : (T.node cb co cp cl cr).text = co.data.toList := by rw [T.text_owns, hy]; simp [join]
      have Hco2 := Lib.hid hco2
      have HQ := Lib.hid hQ
      have Hm3 := Lib.hid hm3
      clear hy hys hQ hBa hm3 hco2
      rw [show (T.node cb co cp cl cr).addr = some ⟨cb, 0, none⟩ from rfl]
      go_wp2_with fail
      refine wp_region_ext_tail 8 (by kernel_rfl) (by kernel_rfl) ?_
      simp only [List.take_succ_cons, List.take_zero, List.drop_succ_cons, List.drop_zero]
      repeat (go_big_quiet_step (fail))
      refine wpQuiet_nil ?_
      intro we hxe
      obtain ⟨D, hD, hl⟩ := h.dice
      have hperm := replace_blocks HP.out HQ.out
      have hnd := hperm.nodup_iff.2 (List.nodup_cons.1 h.nd).2
      have hnd1 := List.nodup_append.1 hnd
      have hnd2 := List.nodup_append.1 hnd1.2.1
      have hat : ∀ k ∈ a.blocks, k ∈ R.t.blocks := fun k hk => hperm.mem_iff.1 (List.mem_append_left _ hk)
      have hbt : ∀ k ∈ b.blocks, k ∈ R.t.blocks := fun k hk => hperm.mem_iff.1 (List.mem_append_right _ (List.mem_append_right _ hk))
      have hrt : ∀ k ∈ r.blocks, k ∈ R.t.blocks := fun k hk => HP.out.blocks.mem_iff.1 (List.mem_append_right _ hk)
      have hab : ∀ k ∈ a.blocks, k ∉ b.blocks := fun k hk hk2 => hnd1.2.2 k hk k (List.mem_append_right _ hk2) rfl
      have har : ∀ k ∈ a.blocks, k ∉ r.blocks := fun k hk hk2 => hnd1.2.2 k hk k (HQ.out.blocks.mem_iff.2 hk2) rfl
      have hoffD : D.Off R.t.blocks := fun k hk => (h.off.like hl) k (List.mem_cons_of_mem _ hk)
      have hmw : Mod (· ∈ R.t.blocks) w' we := Mod.trans (Mod.trans Hm1.out Hm3.out (fun k _ hk => hrt k hk)) hxe (fun _ _ f => f.elim)
      have hDe := hD.off hoffD hmw
      have hae := (ha.mod Hm3.out har).ext hxe
      have hbe := hbb.ext hxe
      obtain ⟨p1, _, p3⟩ := replace_pcs HP.out HQ.out h.pcs
      have hhp := HP.out.heap h.heap
      have hhq := HQ.out.heap hhp.2
      have hlp := HP.out.le h.heap _ h.le
      have hlq := HQ.out.le hhp.2 _ hlp.2
      have hI1 : WeldIn D a (co.extract 0 (f.toNat - a.size)) .nil we :=
        ⟨WeldAt.start hae (b := .nil) trivial (by rw [show a.blocks ++ T.nil.blocks = a.blocks from List.append_nil _]; exact hnd1.1) hhp.1 trivial hlp.1 trivial hDe, hDe, fun k hk => (by rw [show a.blocks ++ T.nil.blocks = a.blocks from List.append_nil _] at hk; exact hoffD k (hat k hk)), p1, good_nil, by have e1 : (co.extract 0 (f.toNat - a.size)).size ≤ co.size := (by simp; omega); have e2 : T.nil.size = 0 := rfl; omega⟩
      have hw1 := weld_any D a .nil _ we hI1
      rw [hl.1] at hw1
      have hB4 := hB3.mod hxe (fun f => f)
      have Hl := Lib.hid hl
      clear c0 hb c4 hl
      go_wp2_with fail
      refine hw1.mono ?_
      rintro e w4 ⟨t1, rfl, hj1, hp1, hW1⟩
      clear hw1
      have hne1 : ¬ (R.rb ∈ a.blocks ++ T.nil.blocks ∨ R.rb = D.d) := by
        rw [show a.blocks ++ T.nil.blocks = a.blocks from List.append_nil _]
        rintro (h1 | h1)
        · exact hrb (hat _ h1)
        · exact (h.off _ (List.mem_cons_self ..)).1 (h1.trans Hl.out.1)
      have hB5 := hB4.mod hW1.mod hne1
      have c0 := hB5.cell 0
      have hb := hB5.lt
      have Hj1 := Lib.hid hj1
      clear hj1
      go_wp2_with fail
      refine wp_region_ext_tail 8 (by kernel_rfl) (by kernel_rfl) ?_
      simp only [List.take_succ_cons, List.take_zero, List.drop_succ_cons, List.drop_zero]
      repeat (go_big_quiet_step (fail))
      refine wpQuiet_nil ?_
      intro wf hxf
      obtain ⟨D4, hD4, hl4⟩ := hW1.dice
      have hDf := hD4.ext hxf
      have hl5 := hl4.trans Hl.out
      have hbf := (hbe.mod hW1.mod (fun k hk => (by
        rw [show a.blocks ++ T.nil.blocks = a.blocks from List.append_nil _]
        rintro (h1 | h1)
        · exact hab k h1 hk
        · exact (hoffD k (hbt k hk)).1 h1))).ext hxf
      have hI2 : WeldIn D4 .nil (co.extract (f.toNat - a.size) co.size) b wf :=
        ⟨WeldAt.start (a := .nil) trivial hbf hnd2.2.1 trivial hhq.2 trivial hlq.2 hDf, hDf, fun k hk => (hoffD.like hl4) k (hbt k hk), good_nil, p3, by have e1 : (co.extract (f.toNat - a.size) co.size).size ≤ co.size := (by simp); have e2 : T.nil.size = 0 := rfl; omega⟩
      have hw2 := weld_any D4 .nil b _ wf hI2
      rw [hl5.1] at hw2
      have hB6 := hB5.mod hxf (fun f => f)
      have Hl5 := Lib.hid hl5
      clear c0 hb hl5 hl4
      go_wp2_with fail
      refine hw2.mono ?_
      rintro e w6 ⟨t2, rfl, hj2, hp2, hW2⟩
      clear hw2
      have hne2 : ¬ (R.rb ∈ T.nil.blocks ++ b.blocks ∨ R.rb = D4.d) := by
        rintro (h1 | h1)
        · exact hrb (hbt _ h1)
        · exact (h.off _ (List.mem_cons_self ..)).1 (h1.trans Hl5.out.1)
      have hB7 := hB6.mod hW2.mod hne2
      have hfin : CutTo R { R with t := t1 } ⟨w6.heap.size, R.D, t2⟩ (R.text.take f.toNat) (R.text.drop f.toNat) w' ((w6.setCell ⟨R.rb, 1, none⟩ (.pointer t1.addr)).alloc (.cells #[.pointer (some ⟨R.D.d, 0, none⟩), .pointer t2.addr] 92)) := by
        have hol1 : ∀ k ∈ t1.blocks, k ∈ a.blocks ∨ we.heap.size ≤ k := fun k hk => by
          have := hW1.old k (List.mem_append_left _ hk)
          rwa [show a.blocks ++ T.nil.blocks = a.blocks from List.append_nil _] at this
        have hol2 : ∀ k ∈ t2.blocks, k ∈ b.blocks ∨ wf.heap.size ≤ k := fun k hk => hW2.old k (List.mem_append_left _ hk)
        have hsw := hmw.size
        have hs4 := hW1.mod.size
        have hsf := hxf.size
        have hoff1 := hW1.off hDe hI1.off
        have ht1f := hW1.ta.ext hxf
        have hnt : ∀ k ∈ t1.blocks, ¬ (k ∈ T.nil.blocks ++ b.blocks ∨ k = D4.d) := by
          rintro k hk (h1 | h1)
          · rcases hol1 k hk with h2 | h2
            · exact hab k h2 h1
            · have := hbe.lt k h1; omega
          · exact (hoff1 k (List.mem_append_left _ hk)).1 (h1.trans (Hl5.out.1.trans Hl.out.1.symm))
        have ht16 := ht1f.mod hW2.mod hnt
        have htx1 : t1.text = a.text ++ co.data.toList.take (f.toNat - a.size) := by
          rw [T.text_owns, Hj1.out, ← T.text_owns]
          simp [T.owns, join]
        have htx2 : t2.text = co.data.toList.drop (f.toNat - a.size) ++ b.text := by
          rw [T.text_owns, hj2, ← T.text_owns (t := b)]
          simp [T.owns, join]
          rw [List.take_of_length_le (by simp)]
        have hRt : R.text = a.text ++ (co.data.toList ++ b.text) := by
          rw [Rp.text, T.text_owns, HP.out.owns, HQ.out.owns, join_append, join_append, ← T.text_owns, ← T.text_owns, ← T.text_owns, Hco2.out]
        have hal : a.text.length = a.size := rfl
        have hcl : co.data.toList.length = co.size := rfl
        have e1 : t1.size = a.size + (f.toNat - a.size) := by rw [T.size, htx1, List.length_append, List.length_take, hal, hcl]; omega
        have e2 : t2.size = co.size - (f.toNat - a.size) + b.size := by rw [T.size, htx2, List.length_append, List.length_drop, hcl]; rfl
        refine cut_end h ?_ ht16 hW2.ta ?_ hW1.ha hW2.ha hW1.la hW2.la hp1 hp2 ?_ ?_ ?_ ?_ (by omega) (by omega)
        · refine Mod.trans (Mod.trans (Mod.trans (hmw.mono (fun k _ hk => .inl hk)) hW1.mod (fun k _ h1 => ?_)) hxf (fun _ _ f => f.elim)) hW2.mod (fun k hk h1 => ?_)
          · rw [show a.blocks ++ T.nil.blocks = a.blocks from List.append_nil _] at h1
            exact h1.imp (hat k) (fun h => h.trans Hl.out.1)
          · exact h1.imp (hbt k) (fun h => h.trans Hl5.out.1)
        · have n1 := (List.nodup_append.1 hW1.nd).1
          have n2 := (List.nodup_append.1 hW2.nd).1
          refine List.nodup_append.2 ⟨n1, n2, fun k hk k2 hk2 e => ?_⟩
          subst e
          rcases hol2 k hk2 with h1 | h1
          · exact hnt k hk (.inl h1)
          · have := hW1.ta.lt k hk; omega
        · obtain ⟨D7, h7, h8⟩ := hW2.dice
          exact ⟨D7, h7, h8.trans Hl5.out⟩
        · intro k hk
          rcases List.mem_append.1 hk with hk | hk
          · exact (hol1 k hk).imp (hat k) (fun h => by omega)
          · exact (hol2 k hk).imp (hbt k) (fun h => by omega)
        · rw [htx1, hRt, List.take_append, List.take_append, List.take_of_length_le (l := a.text) (by omega), hal, show f.toNat - a.size - co.data.toList.length = 0 from by omega]; simp
        · rw [htx2, hRt, List.drop_append, List.drop_append, List.drop_of_length_le (show a.text.length ≤ f.toNat from by omega), hal, show f.toNat - a.size - co.data.toList.length = 0 from by omega]; simp
      have Hfin := Lib.hid hfin
      have c0 := hB7.cell 0
      have c1 := hB7.cell 1
      have f1 := hB7.free 1
      have hb := hB7.lt
      clear hfin hj2 hp2 hW2 hp1 hW1
      go_wp2_with fail
      go_ret2
      exact ⟨_, _, rfl, Hfin.out⟩
  · have he : (a.size : Int) = f := by omega
    have HC := Lib.hid (cut_even h HP.out ha hr2 Hm1.out he)
    clear he
    go_wp2_with fail
    go_ret2
    exact ⟨_, _, rfl, HC.out⟩

end Go.Proofs.Ytbcjlbapgidhiaa

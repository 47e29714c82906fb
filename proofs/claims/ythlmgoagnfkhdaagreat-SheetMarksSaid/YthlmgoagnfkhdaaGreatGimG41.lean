/- A sheet in memory: its block, its rope, its table, its selections; what a deed to it leaves. Conditions: none. -/
import Derived.Test.YthlmgoagnfkhdaaGreatGimG37
import Derived.Test.YthlmgoagnfkhdaaGreatGimG21
import Derived.Test.YthlmgoagnfkhdaaGreatGimG35
import Derived.Test.YthlmgoagnfkhdaaGreatGimG23
import Derived.Test.YthlmgoagnfkhdaaGreatGimG19
import Derived.Test.YthlmgoagnfkhdaaGreatGimG28
import Derived.Test.YthlmgoagnfkhdaaGreatGimG29
import Derived.Test.YthlmgoagnfkhdaaGreatGimG05
import Derived.Test.YthlmgoagnfkhdaaGreatGimG27
import Derived.Test.YthlmgoagnfkhdaaGreatGimG18
set_option maxHeartbeats 6400000
set_option maxRecDepth 1000000
set_option linter.unusedVariables false
set_option linter.unusedSimpArgs false
namespace Go.Proofs.YthlmgoagnfkhdaaGreat
open Go.RowKit Go.Gim
theorem size_of {R : Rp} {s : ByteArray} (ht : R.text = s.data.toList) : R.t.size = s.size := by
 have : R.text.length = s.data.toList.length := by rw [ht]
 exact this
def Near (R : Rp) (k : Nat) : Prop := R.Foot k ∨ R.D.sv.ownBlock = some k
theorem RopeAt.near {w : World} {R : Rp} (h : RopeAt w R) : ∀ k, Near R k → k < w.heap.size := by
 rintro k (hk | hk)
 ·exact h.flt k hk
 ·exact h.dlt.2 k hk
theorem RopeAt.aside {S : Nat → Prop} {w w' : World} {R : Rp} (h : RopeAt w R) (hm : Mod S w w') (hS : ∀ k, Near R k → ¬ S k) : RopeAt w' R := by
 refine h.mod hm (fun k hk => hS k (.inl (.inl hk))) ?_
 obtain ⟨D, hDw, hDl⟩ := h.dice
 refine ⟨D, hDw.mod hm ?_ ?_, hDl⟩
 ·exact fun hs => hS _ (.inl (.inr hDl.1)) hs
 ·intro k hk
  rw [hDl.2.1] at hk
  exact hS k (.inr hk)
structure Sh where
 sb : Nat
 R : Rp
 tb : Nat
 mb : Nat
 L : Tb
 last : Int
 ao : Option Addr
 c : Nat
 q : List (Int × Int)
 s : ByteArray
structure SheetAt (w : World) (S : Sh) : Prop where
 blk : Blk w S.sb 45 #[.pointer (some ⟨S.R.rb, 0, none⟩), .pointer (some ⟨S.tb, 0, none⟩), .slice S.ao S.q.length S.c]
 rope : RopeAt w S.R
 text : S.R.text = S.s.data.toList
 tab : TabAt w S.tb S.mb S.L S.last
 sels : w.ownsRow 0 47 2 (.slice S.ao S.q.length S.c) S.q.length (prCells S.q)
 off : ∀ k, Near S.R k → k ≠ S.sb ∧ k ≠ S.tb ∧ k ≠ S.mb
 ne : S.sb ≠ S.tb ∧ S.sb ≠ S.mb
 far : ∀ a, S.ao = some a → a.block ≠ S.sb ∧ a.block ≠ S.tb ∧ a.block ≠ S.mb ∧ ¬ S.R.Foot a.block
theorem SheetAt.rd {w : World} {S : Sh} (h : SheetAt w S) : Reads w 2 S.ao S.q.length (prCells S.q) := Reads.own h.sels
theorem own_slice {ao : Option Addr} {n c k : Nat} (h : (Value.slice ao n c).ownBlock = some k) : ∃ a, ao = some a ∧ a.block = k := by
 cases ao with
 | none => cases h
 | some a => cases h; exact ⟨a, rfl, rfl⟩
theorem own_mod {T : Nat → Prop} {w w' : World} {B n c : Nat} {ty : TypeId} {z : Nat} {ao : Option Addr} {xs : List Value} (h : w.ownsRow B ty z (.slice ao n c) n xs) (hm : Mod T w w') (hT : ∀ a, ao = some a → ¬ T a.block) : w'.ownsRow B ty z (.slice ao n c) n xs :=
 ownsRow_mod h hm (fun k hk => by obtain ⟨a, ha, rfl⟩ := own_slice hk; exact hT a ha)
def ShS (S : Sh) (k : Nat) : Prop := S.R.Foot k ∨ k = S.sb ∨ k = S.tb ∨ k = S.mb
theorem SheetAt.ext {w w' : World} {S : Sh} (h : SheetAt w S) (hm : Ext w w') : SheetAt w' S :=
 ⟨h.blk.mod hm (fun f => f), h.rope.ext hm, h.text, h.tab.ext hm, own_mod h.sels hm (fun _ _ f => f), h.off, h.ne, h.far⟩
theorem SheetAt.mod {T : Nat → Prop} {w w' : World} {S : Sh} (h : SheetAt w S) (hm : Mod T w w') (h1 : ∀ k, ShS S k → ¬ T k) (h2 : ∀ k, S.R.D.sv.ownBlock = some k → ¬ T k) (h3 : ∀ a, S.ao = some a → ¬ T a.block) : SheetAt w' S :=
 ⟨h.blk.mod hm (h1 _ (.inr (.inl rfl))), h.rope.aside hm (fun k hk => hk.elim (fun hk => h1 k (.inl hk)) (h2 k)), h.text, h.tab.mod hm (h1 _ (.inr (.inr (.inl rfl)))) (h1 _ (.inr (.inr (.inr rfl)))), own_mod h.sels hm h3, h.off, h.ne, h.far⟩
theorem SheetAt.lt {w : World} {S : Sh} (h : SheetAt w S) : ∀ k, ShS S k → k < w.heap.size := by
 rintro k (hk | rfl | rfl | rfl)
 ·exact h.rope.flt k hk
 ·exact h.blk.lt
 ·exact h.tab.blk.lt
 ·exact h.tab.map.lt
structure ShDone (S S' : Sh) (w w' : World) : Prop where
 at_ : SheetAt w' S'
 sb : S'.sb = S.sb
 tabs : S'.tb = S.tb ∧ S'.mb = S.mb
 grew : ∀ k, k < w.heap.size → ShS S' k → ShS S k
 sv : S'.R.D = S.R.D
 mod : Mod (ShS S) w w'
theorem ShDone.refl {S : Sh} {w : World} (h : SheetAt w S) : ShDone S S w w := ⟨h, rfl, ⟨rfl, rfl⟩, fun _ _ h => h, rfl, Mod.refl _ _⟩
theorem ShDone.ext {S S' : Sh} {w w' w'' : World} (h : ShDone S S' w w') (k : Ext w' w'') : ShDone S S' w w'' :=
 ⟨h.at_.ext k, h.sb, h.tabs, h.grew, h.sv, h.mod.trans k (fun _ _ f => f.elim)⟩
theorem ShDone.after {S S' : Sh} {w w' w'' : World} (k : Ext w w') (h : ShDone S S' w' w'') : ShDone S S' w w'' :=
 ⟨h.at_, h.sb, h.tabs, fun i hi => h.grew i (Nat.lt_of_lt_of_le hi k.size), h.sv, k.any.trans h.mod (fun _ _ e => e)⟩
theorem ShDone.trans {S S' S'' : Sh} {w w' w'' : World} (h : ShDone S S' w w') (k : ShDone S' S'' w' w'') : ShDone S S'' w w'' :=
 ⟨k.at_, k.sb.trans h.sb, ⟨k.tabs.1.trans h.tabs.1, k.tabs.2.trans h.tabs.2⟩, fun i hi e => h.grew i hi (k.grew i (Nat.lt_of_lt_of_le hi h.mod.size) e), k.sv.trans h.sv, h.mod.trans k.mod (fun i hi e => h.grew i hi e)⟩
theorem SheetAt.roped {w w' : World} {S : Sh} {R' : Rp} {t : ByteArray} {l : List UInt8} (h : SheetAt w S) (hd : Done S.R R' l w w') (ht : l = t.data.toList) : ShDone S { S with R := R', s := t } w w' := by
 have hg := hd.grew
 have hoff : ∀ k, Near S.R k → k ≠ S.sb ∧ k ≠ S.tb ∧ k ≠ S.mb := h.off
 have hno : ∀ k, k = S.sb ∨ k = S.tb ∨ k = S.mb → ¬ S.R.Foot k := by
  rintro k hk hf
  obtain ⟨h1, h2, h3⟩ := h.off k (.inl hf)
  rcases hk with e | e | e
  ·exact h1 e
  ·exact h2 e
  ·exact h3 e
 refine ⟨⟨?_, hd.rope, hd.text.trans ht, h.tab.mod hd.mod (hno _ (.inr (.inl rfl))) (hno _ (.inr (.inr rfl))), own_mod h.sels hd.mod (fun a ha => (h.far a ha).2.2.2), ?_, h.ne, ?_⟩, rfl, ⟨rfl, rfl⟩, ?_, hg.2.1, hd.mod.mono (fun k _ e => .inl e)⟩
 ·have := h.blk.mod hd.mod (hno _ (.inl rfl))
  show Blk w' S.sb _ #[.pointer (some ⟨R'.rb, 0, none⟩), _, _]
  rw [hg.1]; exact this
 ·rintro k (hk | hk)
  ·by_cases hl : k < w.heap.size
   ·exact h.off k (.inl (hg.foot k hl hk))
   ·have h1 := h.blk.lt
    have h2 := h.tab.blk.lt
    have h3 := h.tab.map.lt
    refine ⟨?_, ?_, ?_⟩ <;> (intro e; simp only at e; omega)
  ·have hk2 : S.R.D.sv.ownBlock = some k := by rw [← hg.2.1]; exact hk
   exact h.off k (.inr hk2)
 ·intro a ha
  obtain ⟨f1, f2, f3, f4⟩ := h.far a ha
  refine ⟨f1, f2, f3, fun e => ?_⟩
  have hb := (h.sels.lt a.block (by simp only at ha; rw [ha]; rfl)).2
  exact f4 (hg.foot _ hb e)
 ·rintro k hk (e | e | e | e)
  ·exact .inl (hg.foot k hk e)
  ·exact .inr (.inl e)
  ·exact .inr (.inr (.inl e))
  ·exact .inr (.inr (.inr e))
theorem SheetAt.tabbed {w w' : World} {S : Sh} {L' : Tb} {last' : Int} (h : SheetAt w S) (ht : TabAt w' S.tb S.mb L' last') (hm : Mod (tabS S.tb S.mb) w w') : ShDone S { S with L := L', last := last' } w w' := by
 have hno : ∀ k, Near S.R k → ¬ tabS S.tb S.mb k := by
  rintro k hk (e | e)
  ·exact (h.off k hk).2.1 e
  ·exact (h.off k hk).2.2 e
 have hb := h.blk.mod hm (fun e => e.elim (fun e => h.ne.1 e) (fun e => h.ne.2 e))
 exact ⟨⟨hb, h.rope.aside hm hno, h.text, ht, own_mod h.sels hm (fun a ha e => e.elim (fun e => (h.far a ha).2.1 e) (fun e => (h.far a ha).2.2.1 e)), h.off, h.ne, h.far⟩, rfl, ⟨rfl, rfl⟩, fun _ _ e => e, rfl, hm.mono (fun k _ e => e.elim (fun e => .inr (.inr (.inl e))) (fun e => .inr (.inr (.inr e))))⟩
theorem SheetAt.picked {w w' : World} {S : Sh} {a' : Option Addr} {c' : Nat} {q' : List (Int × Int)} (h : SheetAt w S) (hr : w.ownsRow 0 47 2 (.slice a' q'.length c') q'.length (prCells q')) (hf : ∀ a, a' = some a → a.block ≠ S.sb ∧ a.block ≠ S.tb ∧ a.block ≠ S.mb ∧ ¬ S.R.Foot a.block) (hw : w' = w.setCell ⟨S.sb, 2, none⟩ (.slice a' q'.length c')) :
  ShDone S { S with ao := a', c := c', q := q' } w w' := by
 have hm : Mod (· = S.sb) w w' := by rw [hw]; exact (Mod.refl (· = S.sb) w).setCell (fun _ => rfl) _
 have hno : ∀ k, Near S.R k → ¬ k = S.sb := fun k hk => (h.off k hk).1
 refine ⟨⟨?_, h.rope.aside hm hno, h.text, h.tab.mod hm (fun e => h.ne.1 e.symm) (fun e => h.ne.2 e.symm), own_mod hr hm (fun a ha e => (hf a ha).1 e), h.off, h.ne, hf⟩, rfl, ⟨rfl, rfl⟩, fun _ _ e => e, rfl, hm.mono (fun k _ e => .inr (.inl e))⟩
 rw [hw]
 exact h.blk.set 2 _
theorem SheetAt.free {w : World} {S : Sh} (h : SheetAt w S) {k : Nat} (hk : w.heap.size ≤ k) : ¬ ShS S k := fun e => by have := h.lt k e; omega
theorem ssels_any (S : Sh) (w : World) (h : SheetAt w S) (hq0 : 0 < S.q.length) (hq1 : S.q.length ≤ 19) :
  Calls Tryz.prog 16 #[.pointer (some ⟨S.sb, 0, none⟩)] w (NewRow 47 S.q w) := by
 obtain ⟨b, off, e⟩ := h.rd.some hq0
 have hsl := h.rd
 rw [e] at hsl
 have HC := Lib.hid (cloneSel_any b off S.c S.q w hsl hq0 (by omega))
 have d2 := h.blk.cell 2
 simp only [List.getElem?_toArray, List.getElem?_cons_zero, List.getElem?_cons_succ] at d2
 rw [e] at d2
 have hlb := h.blk.lt
 unfold NewRow at HC ⊢
 clear h e hsl
 go_enter Tryz.func16, Tryz.ntmps16
 go_wp2_with fail
 refine HC.out.mono ?_
 rintro e w1 ⟨g, c, rfl, hown, hx⟩
 have Hown := Lib.hid hown
 clear HC hown
 go_wp2_with fail
 go_ret
 exact ⟨g, c, rfl, Hown.out, hx⟩
theorem SheetAt.pick {w w0 : World} {S : Sh} {a' : Option Addr} {c' : Nat} {q' : List (Int × Int)} (h : SheetAt w S) (h0 : SheetAt w0 S) (hr : w.ownsRow w0.heap.size 47 2 (.slice a' q'.length c') q'.length (prCells q')) :
  ShDone S { S with ao := a', c := c', q := q' } w (w.setCell ⟨S.sb, 2, none⟩ (.slice a' q'.length c')) :=
 h.picked (ownsRow_base hr (Nat.zero_le _)) (fun a ha => by
  have h1 := (hr.lt a.block (by rw [ha]; rfl)).1
  have a1 := h0.blk.lt
  have a2 := h0.tab.blk.lt
  have a3 := h0.tab.map.lt
  exact ⟨by omega, by omega, by omega, fun e => by have := h0.rope.flt _ e; omega⟩) rfl
theorem sselect_any (S : Sh) (ao : Option Addr) (cap : Nat) (l : List (Int × Int)) (w : World) (h : SheetAt w S) (hr : Reads w 2 ao l.length (prCells l)) (hn : l.length ≤ 19) :
  Calls Tryz.prog 14 #[.pointer (some ⟨S.sb, 0, none⟩), .slice ao l.length cap] w fun e w' => ∃ S', e = .returned (.int .i64 (normE S.s.size l)) ∧ ShDone S S' w w' ∧ S'.s = S.s ∧ S'.L = S.L ∧ S'.last = S.last ∧ S'.q = if normE S.s.size l = 0 then orderN l else S.q := by
 have HL := Lib.hid (len_any S.R w h.rope)
 rw [size_of h.text] at HL
 have HN := Lib.hid (norm_any S.s.size ao cap l w hr hn)
 have H := Lib.hid h
 have d0 := h.blk.cell 0
 simp only [List.getElem?_toArray, List.getElem?_cons_zero] at d0
 have hlb := h.blk.lt
 unfold NormPost at HN
 by_cases hz : normE S.s.size l = 0
 ·rw [normL_ok hz, hz] at HN
  rw [if_pos hz, hz]
  clear h hr hz
  go_enter Tryz.func14, Tryz.ntmps14
  go_wp2_with fail
  refine HL.out.mono ?_
  rintro e w1 ⟨rfl, rfl⟩
  go_wp2_with fail
  refine HN.out.mono ?_
  rintro e w2 ⟨v, rfl, hown, hx⟩
  have H2 := Lib.hid (H.out.ext hx)
  obtain ⟨a', c', rfl, _, _⟩ := ownsRow_shape hown
  have Hown := Lib.hid hown
  have d2 := H2.out.blk.cell 2
  simp only [List.getElem?_toArray, List.getElem?_cons_zero, List.getElem?_cons_succ] at d2
  have f2 := H2.out.blk.free 2
  have hlb := H2.out.blk.lt
  clear hown HN HL d0
  go_wp2_with fail
  go_ret
  exact ⟨_, rfl, ShDone.after hx (H2.out.pick (a' := a') (c' := c') H.out Hown.out), rfl, rfl, rfl, rfl⟩
 ·rw [if_neg hz]
  generalize normE S.s.size l = C at *
  have hz1 : (C == 0) = false := by simpa using hz
  clear h hr
  go_enter Tryz.func14, Tryz.ntmps14
  go_wp2_with fail
  refine HL.out.mono ?_
  rintro e w1 ⟨rfl, rfl⟩
  go_wp2_with fail
  refine HN.out.mono ?_
  rintro e w2 ⟨v, rfl, hown, hx⟩
  obtain ⟨a', c', rfl, _, _⟩ := ownsRow_shape hown
  clear hown HN HL d0
  go_wp2_with fail
  go_ret
  exact ⟨S, rfl, ShDone.after hx (ShDone.refl (H.out.ext hx)), rfl, rfl, rfl, rfl⟩
theorem sgo_any (S : Sh) (way : Int) (x : Bool) (w : World) (h : SheetAt w S) (hq1 : S.q.length ≤ 19) :
  Calls Tryz.prog 31 #[.pointer (some ⟨S.sb, 0, none⟩), .int .i64 way, .bool x] w fun e w' => ∃ S', e = .returned (.int .i64 (goE S.s.size way S.q)) ∧ ShDone S S' w w' ∧ S'.s = S.s ∧ S'.L = S.L ∧ S'.last = S.last ∧ S'.q = if goE S.s.size way S.q = 0 then goL S.s.data.toList way x S.q else S.q := by
 have HG := Lib.hid (fun w' (h' : Ext w w') => go_any S.R S.s S.ao S.c S.q way x w' (h.rope.ext h') h.text (h.rd.mod h' (fun _ _ f => f)) hq1)
 have H := Lib.hid h
 have d0 := h.blk.cell 0
 have d2 := h.blk.cell 2
 simp only [List.getElem?_toArray, List.getElem?_cons_zero, List.getElem?_cons_succ] at d0 d2
 have hlb := h.blk.lt
 unfold GoPost at HG
 generalize goL S.s.data.toList way x S.q = Q at *
 generalize goE S.s.size way S.q = C at *
 clear h
 have HS := Lib.hid (fun w' (h' : Ext w w') => (⟨(H.out.ext h').blk.cell 0, (H.out.ext h').blk.cell 2, trivial, trivial⟩ : w'.cell? ⟨S.sb, 0, none⟩ = some (.pointer (some ⟨S.R.rb, 0, none⟩)) ∧ w'.cell? ⟨S.sb, 2, none⟩ = some (.slice S.ao S.q.length S.c) ∧ True ∧ True))
 clear d0 d2 hlb
 by_cases hz : C = 0
 ·rw [if_pos hz]
  subst hz
  go_enter Tryz.func31, Tryz.ntmps31
  go_upto_region 3 with fail
  refine wp_region_E (by kernel_rfl) ?_
  refine wpE_t 0 12 (v := ?_) (fun w' hw' => qat_value ?_) ?_
  rotate_left
  ·go_simp
   rfl
  simp only [fr1, fr2, fr3, fr4]
  refine wpE_t 1 13 (v := ?_) (fun w' hw' => qat_value ?_) ?_
  rotate_left
  ·go_simp
   rfl
  simp only [fr1, fr2, fr3, fr4]
  refine wpE_t 2 14 (v := ?_) (fun w' hw' => qat_value ?_) ?_
  rotate_left
  ·go_simp
   rfl
  simp only [fr1, fr2, fr3, fr4]
  refine wpE_t 3 15 (v := ?_) (fun w' hw' => ?_) ?_
  rotate_left
  ·obtain ⟨r0, r1, r2, r3⟩ := HS.out w' hw'
   refine qat_value ?_
   go_simp
   rfl
  simp only [fr1, fr2, fr3, fr4]
  refine wpE_t 4 16 (v := ?_) (fun w' hw' => qat_value ?_) ?_
  rotate_left
  ·go_simp
   rfl
  simp only [fr1, fr2, fr3, fr4]
  refine wpE_t 5 17 (v := ?_) (fun w' hw' => qat_value ?_) ?_
  rotate_left
  ·go_simp
   rfl
  simp only [fr1, fr2, fr3, fr4]
  refine wpE_t 6 18 (v := ?_) (fun w' hw' => qat_value ?_) ?_
  rotate_left
  ·go_simp
   rfl
  simp only [fr1, fr2, fr3, fr4]
  refine wpE_t 7 19 (v := ?_) (fun w' hw' => qat_value ?_) ?_
  rotate_left
  ·go_simp
   rfl
  simp only [fr1, fr2, fr3, fr4]
  refine wpE_t 8 20 (v := ?_) (fun w' hw' => qat_value ?_) ?_
  rotate_left
  ·go_simp
   rfl
  simp only [fr1, fr2, fr3, fr4]
  refine wpE_t 9 21 (v := ?_) (fun w' hw' => ?_) ?_
  rotate_left
  ·obtain ⟨r0, r1, r2, r3⟩ := HS.out w' hw'
   refine qat_value ?_
   go_simp
   rfl
  simp only [fr1, fr2, fr3, fr4]
  refine wpE_callw 10 22 (f := 60) (args := #[.agg #[.pointer (some ⟨S.R.rb, 0, none⟩)], .int .i64 way, .bool x, .slice S.ao S.q.length S.c]) rfl rfl (by kernel_rfl) rfl (fun w' => by first | (go_simp; done) | (go_simp; exact ⟨rfl, rfl⟩)) fun wb hwb => ?_
  have hyb : Ext w wb := (ext_draw w).ext_trans hwb
  refine (HG.out wb hyb).mono ?_
  rintro e w2 ⟨a', c', rfl, hrd0, hx⟩
  have hy2 := hyb.ext_trans hx
  refine ⟨_, rfl, hy2, ?_⟩
  simp only [fr1, fr2, fr3, fr4]
  refine wpE_t 11 11 (v := ?_) (fun w' hw' => qat_value ?_) ?_
  rotate_left
  ·go_simp
   rfl
  simp only [fr1, fr2, fr3, fr4]
  refine wpE_t 12 23 (v := ?_) (fun w' hw' => qat_value ?_) ?_
  rotate_left
  ·go_simp
   rfl
  simp only [fr1, fr2, fr3, fr4]
  refine wpE_t 13 24 (v := ?_) (fun w' hw' => qat_value ?_) ?_
  rotate_left
  ·go_simp
   rfl
  simp only [fr1, fr2, fr3, fr4]
  refine wpE_t 14 7 (v := ?_) (fun w' hw' => qat_value ?_) ?_
  rotate_left
  ·go_simp
   rfl
  simp only [fr1, fr2, fr3, fr4]
  refine wpE_t 15 8 (v := ?_) (fun w' hw' => qat_value ?_) ?_
  rotate_left
  ·go_simp
   rfl
  simp only [fr1, fr2, fr3, fr4]
  refine wpE_done (by kernel_rfl) (fun wh hwh => ?_) _
  have hy := hy2.ext_trans hwh
  have hrd := ownsRow_mod hrd0 hwh (fun _ _ f => f)
  clear hrd0 hwh hy2 hx hwb
  have H2 := Lib.hid (H.out.ext hy)
  have Hrd := Lib.hid hrd
  have d2 := H2.out.blk.cell 2
  simp only [List.getElem?_toArray, List.getElem?_cons_zero, List.getElem?_cons_succ] at d2
  have f2 := H2.out.blk.free 2
  have hlb := H2.out.blk.lt
  clear hrd HG HS
  go_wp2_with fail
  go_ret
  exact ⟨_, rfl, ShDone.after hy (H2.out.pick (a' := a') (c' := c') (H.out.ext hyb) Hrd.out), rfl, rfl, rfl, rfl⟩
 ·rw [if_neg hz]
  have hz1 : (C == 0) = false := by simpa using hz
  go_enter Tryz.func31, Tryz.ntmps31
  go_upto_region 3 with fail
  refine wp_region_E (by kernel_rfl) ?_
  refine wpE_t 0 12 (v := ?_) (fun w' hw' => qat_value ?_) ?_
  rotate_left
  ·go_simp
   rfl
  simp only [fr1, fr2, fr3, fr4]
  refine wpE_t 1 13 (v := ?_) (fun w' hw' => qat_value ?_) ?_
  rotate_left
  ·go_simp
   rfl
  simp only [fr1, fr2, fr3, fr4]
  refine wpE_t 2 14 (v := ?_) (fun w' hw' => qat_value ?_) ?_
  rotate_left
  ·go_simp
   rfl
  simp only [fr1, fr2, fr3, fr4]
  refine wpE_t 3 15 (v := ?_) (fun w' hw' => ?_) ?_
  rotate_left
  ·obtain ⟨r0, r1, r2, r3⟩ := HS.out w' hw'
   refine qat_value ?_
   go_simp
   rfl
  simp only [fr1, fr2, fr3, fr4]
  refine wpE_t 4 16 (v := ?_) (fun w' hw' => qat_value ?_) ?_
  rotate_left
  ·go_simp
   rfl
  simp only [fr1, fr2, fr3, fr4]
  refine wpE_t 5 17 (v := ?_) (fun w' hw' => qat_value ?_) ?_
  rotate_left
  ·go_simp
   rfl
  simp only [fr1, fr2, fr3, fr4]
  refine wpE_t 6 18 (v := ?_) (fun w' hw' => qat_value ?_) ?_
  rotate_left
  ·go_simp
   rfl
  simp only [fr1, fr2, fr3, fr4]
  refine wpE_t 7 19 (v := ?_) (fun w' hw' => qat_value ?_) ?_
  rotate_left
  ·go_simp
   rfl
  simp only [fr1, fr2, fr3, fr4]
  refine wpE_t 8 20 (v := ?_) (fun w' hw' => qat_value ?_) ?_
  rotate_left
  ·go_simp
   rfl
  simp only [fr1, fr2, fr3, fr4]
  refine wpE_t 9 21 (v := ?_) (fun w' hw' => ?_) ?_
  rotate_left
  ·obtain ⟨r0, r1, r2, r3⟩ := HS.out w' hw'
   refine qat_value ?_
   go_simp
   rfl
  simp only [fr1, fr2, fr3, fr4]
  refine wpE_callw 10 22 (f := 60) (args := #[.agg #[.pointer (some ⟨S.R.rb, 0, none⟩)], .int .i64 way, .bool x, .slice S.ao S.q.length S.c]) rfl rfl (by kernel_rfl) rfl (fun w' => by first | (go_simp; done) | (go_simp; exact ⟨rfl, rfl⟩)) fun wb hwb => ?_
  have hyb : Ext w wb := (ext_draw w).ext_trans hwb
  refine (HG.out wb hyb).mono ?_
  rintro e w2 ⟨a', c', rfl, hrd0, hx⟩
  have hy2 := hyb.ext_trans hx
  refine ⟨_, rfl, hy2, ?_⟩
  simp only [fr1, fr2, fr3, fr4]
  refine wpE_t 11 11 (v := ?_) (fun w' hw' => qat_value ?_) ?_
  rotate_left
  ·go_simp
   rfl
  simp only [fr1, fr2, fr3, fr4]
  refine wpE_t 12 23 (v := ?_) (fun w' hw' => qat_value ?_) ?_
  rotate_left
  ·go_simp
   rfl
  simp only [fr1, fr2, fr3, fr4]
  refine wpE_t 13 24 (v := ?_) (fun w' hw' => qat_value ?_) ?_
  rotate_left
  ·go_simp
   rfl
  simp only [fr1, fr2, fr3, fr4]
  refine wpE_t 14 7 (v := ?_) (fun w' hw' => qat_value ?_) ?_
  rotate_left
  ·go_simp
   rfl
  simp only [fr1, fr2, fr3, fr4]
  refine wpE_t 15 8 (v := ?_) (fun w' hw' => qat_value ?_) ?_
  rotate_left
  ·go_simp
   rfl
  simp only [fr1, fr2, fr3, fr4]
  refine wpE_done (by kernel_rfl) (fun wh hwh => ?_) _
  have hy := hy2.ext_trans hwh
  have hrd := ownsRow_mod hrd0 hwh (fun _ _ f => f)
  clear hrd0 hwh hy2 hx hwb
  clear hrd HG HS
  go_wp2_with fail
  go_ret
  exact ⟨S, rfl, ShDone.after hy (ShDone.refl (H.out.ext hy)), rfl, rfl, rfl, rfl⟩
end Go.Proofs.YthlmgoagnfkhdaaGreat
namespace Go.Gim
def typedL (t : ByteArray) (q : List (Int × Int)) : List Ed := q.map fun x => ⟨(spanI x).1, (spanI x).2, t⟩
end Go.Gim
namespace Go.Proofs.YthlmgoagnfkhdaaGreat
open Go.RowKit Go.Gim
theorem styped_any (S : Sh) (t : ByteArray) (w : World) (h : SheetAt w S) (hq0 : 0 < S.q.length) (hq1 : S.q.length ≤ 19) :
  Calls Tryz.prog 18 #[.pointer (some ⟨S.sb, 0, none⟩), .string t] w (edE.Out 59 (typedL t S.q) w) := by
 have hl1 : maxLen = 9223372036854775807 := rfl
 obtain ⟨b, off, e⟩ := h.rd.some hq0
 have hsl := h.rd
 rw [e] at hsl
 have Hsl := Lib.hid hsl
 have d2 := h.blk.cell 2
 simp only [List.getElem?_toArray, List.getElem?_cons_zero, List.getElem?_cons_succ] at d2
 rw [e] at d2
 have hlb := h.blk.lt
 have hTl : (typedL t S.q).length = S.q.length := List.length_map _
 unfold Enc.Out
 rw [hTl]
 obtain ⟨N, hN⟩ : ∃ N, N = S.q.length := ⟨_, rfl⟩
 have HN := Lib.hid hN
 rw [← hN] at hq0 hq1 d2 ⊢
 clear h e hsl hN hTl
 go_enter Tryz.func18, Tryz.ntmps18
 go_wp2_with fail
 go_loopw [5, 15] (fun v i wr => ∃ k : Nat, k ≤ N ∧ i = .int .i64 k ∧ Hid (wr.ownsRow w.heap.size 59 3 v k (edE.cells (typedL t (S.q.take k)))) ∧ Ext w wr) (fun _ i _ => N - (intOf i).toNat)
 case atStart => exact ⟨0, by omega, rfl, Lib.hid (World.ownsRow_nil _ _ _ _), Mod.refl _ _⟩
 case round =>
  clear d2
  obtain ⟨k, hk, rfl, HW, hx⟩ := hrel
  by_cases hlt : k < N
  ·have hlt' : (k : Int) < (N : Int) := by omega
   have hk0 : (0 : Int) ≤ (k : Int) := by omega
   have hlk : k < S.q.length := by rw [← HN.out]; exact hlt
   obtain ⟨c0, c1⟩ := reads_pair (Hsl.out.mod hx (fun _ _ f => f)) (List.getElem?_eq_getElem hlk)
   have Hts := Lib.hid (show typedL t (S.q.take (k + 1)) = typedL t (S.q.take k) ++ [⟨(spanI S.q[k]).1, (spanI S.q[k]).2, t⟩] by unfold typedL; rw [List.take_succ_eq_append_getElem hlk, List.map_append]; rfl)
   have HSp := Lib.hid (fun w' => span_any S.q[k] w')
   generalize S.q[k] = x at *
   generalize spanI x = y at *
   obtain ⟨p, q⟩ := x
   obtain ⟨y1, y2⟩ := y
   simp only at c0 c1 HSp Hts
   obtain ⟨va, vc, hva, _, _⟩ := ownsRow_shape HW.out
   subst hva
   have hbl := World.block_lt_of_cell? wr _ c0
   clear hlk
   go_upto_region 7 with fail
   obtain ⟨u, hu⟩ : ∃ u, u = wr.alloc (.cells #[.int .i64 p, .int .i64 q] 47) := ⟨_, rfl⟩
   have hxu : Ext wr u := by rw [hu]; exact (Mod.refl _ wr).alloc _
   have hbu : Blk u wr.heap.size 47 #[.int .i64 p, .int .i64 q] := by rw [hu]; exact Blk.new _ _ _
   rw [← hu]
   clear c0 c1 hbl hu
   have c0 : u.cell? ⟨wr.heap.size, 0, none⟩ = some (.int .i64 p) := hbu.cell 0
   have c1 : u.cell? ⟨wr.heap.size, 1, none⟩ = some (.int .i64 q) := hbu.cell 1
   have hlu := hbu.lt
   have HSp2 := Lib.hid (HSp.out u)
   go_wp2_with fail
   refine HSp2.out.mono ?_
   rintro e we ⟨rfl, hxe⟩
   have hye := (hx.ext_trans hxu).ext_trans hxe
   have HWe := Lib.hid (ownsRow_mod HW.out (hxu.ext_trans hxe) (fun _ _ f => f))
   clear c0 c1 hlu hbu hxu hxe HW HSp HSp2
   go_wp2_with (at_builtin; refine wpList_append_reads rfl _ _ 35 rfl w.heap.size 59 _ 3 32 Tryz.info59 Tryz.underlying35 rfl (by decide) _ k _ rfl (HWe.out.alloc _) _ 1 1 [.int .i64 y1, .int .i64 y2, .string t] rfl ?hrd (edE.one ⟨y1, y2, t⟩) (by omega) (by omega) ?hbs ?_)
   case hrd =>
    have := Reads.new we 59 #[.int .i64 y1, .int .i64 y2, .string t] 3 1 rfl
    simpa using this
   case hbs => have := hye.size; simp; omega
   intro v' w4 hown hm4 hbk
   have hx4 := (hye.alloc _).over hm4 (fun i hi => (HWe.out.lt i hi).1)
   have Hown := Lib.hid hown
   clear hm4 hbk hown
   go_wp2_with fail
   go_roundw
   case rel => exact ⟨k + 1, by omega, by go_num, Lib.hid (by rw [Hts.out, edE.cells_append]; exact Hown.out), hx4⟩
   case measure => simp [intOf]; omega
  ·have hlt' : ¬ (k : Int) < (N : Int) := by omega
   obtain rfl : k = N := by omega
   have hS := HW.out
   rw [List.take_of_length_le (by rw [← HN.out]; exact Nat.le_refl _)] at hS
   have HS := Lib.hid hS
   clear hS HW
   go_wp2_with fail
   go_ret
   exact ⟨_, rfl, HS.out, hx⟩
def SNewPost (D : Dice) (s : ByteArray) (w : World) (e : Ending) (w' : World) : Prop :=
 ∃ S : Sh, e = .returned (.tuple #[.pointer (some ⟨S.sb, 0, none⟩), .int .i64 0]) ∧ SheetAt w' S ∧ S.s = s ∧ S.L = [] ∧ S.last = 0 ∧ S.q = [(0, 0)] ∧ S.R.D = D ∧ (∀ k, ShS S k → w.heap.size ≤ k ∨ k = D.d) ∧ Mod (· = D.d) w w'
theorem snew_any (D : Dice) (s : ByteArray) (w : World) (hD : DiceOf w D) (hs : s.size ≤ 65536) :
  Calls Tryz.prog 12 #[.pointer (some ⟨D.d, 0, none⟩), .string s] w (SNewPost D s w) := by
 have HR := Lib.hid (rope_one D s w hD hs)
 unfold MadeRopePost at HR
 unfold SNewPost
 go_enter Tryz.func12, Tryz.ntmps12
 go_wp2_with fail
 refine HR.out.mono ?_
 rintro e w1 ⟨R, rfl, hF⟩
 have HF := Lib.hid hF
 clear HR hF
 go_wp2_with fail
 refine (linesOf_any (some ⟨R.rb, 0, none⟩) w1).mono ?_
 rintro e w2 ⟨rfl, hx2⟩
 go_wp2_with fail
 refine (tnew_any w2).mono ?_
 rintro e w3 ⟨tb, mb, rfl, h3, l1, l2, hx3⟩
 have H3 := Lib.hid h3
 clear h3
 obtain ⟨w4, hw4⟩ : ∃ w4, w4 = w3.alloc (.cells #[.int .i64 0, .int .i64 0] 47) := ⟨_, rfl⟩
 have hx4 : Ext w3 w4 := by rw [hw4]; exact (Mod.refl _ w3).alloc _
 have hr4 : w4.ownsRow 0 47 2 (.slice (some ⟨w3.heap.size, 0, none⟩) 1 1) 1 (prCells [(0, 0)]) := by rw [hw4]; exact World.ownsRow_lit w3 #[.int .i64 0, .int .i64 0] 1 (Nat.zero_le _) (by unfold maxLen; omega) rfl
 have hz4 : w4.heap.size = w3.heap.size + 1 := by rw [hw4]; simp
 go_wp2_with fail
 go_ret2
 rw [← hw4]
 have e1 := hx2.size
 have e3 := hx3.size
 have t1 := H3.out.blk.lt
 have t2 := H3.out.map.lt
 have hn := RopeAt.near HF.out.rope
 have hx5 : Ext w4 (w4.alloc (.cells #[.pointer (some ⟨R.rb, 0, none⟩), .pointer (some ⟨tb, 0, none⟩), .slice (some ⟨w3.heap.size, 0, none⟩) 1 1] 45)) := (Mod.refl _ w4).alloc _
 have hbn : Blk (w4.alloc (.cells #[.pointer (some ⟨R.rb, 0, none⟩), .pointer (some ⟨tb, 0, none⟩), .slice (some ⟨w3.heap.size, 0, none⟩) 1 1] 45)) (w3.heap.size + 1) 45 #[.pointer (some ⟨R.rb, 0, none⟩), .pointer (some ⟨tb, 0, none⟩), .slice (some ⟨w3.heap.size, 0, none⟩) 1 1] := by
  have := Blk.new w4 45 #[.pointer (some ⟨R.rb, 0, none⟩), .pointer (some ⟨tb, 0, none⟩), .slice (some ⟨w3.heap.size, 0, none⟩) 1 1]
  rwa [hz4] at this
 refine ⟨⟨w3.heap.size + 1, R, tb, mb, [], 0, some ⟨w3.heap.size, 0, none⟩, 1, [(0, 0)], s⟩, rfl, ⟨hbn, HF.out.rope.ext (((hx2.ext_trans hx3).ext_trans hx4).ext_trans hx5), HF.out.text, H3.out.ext (hx4.ext_trans hx5), own_mod hr4 hx5 (fun _ _ f => f), ?_, ?_, ?_⟩, rfl, rfl, rfl, rfl, HF.out.dice, ?_, HF.out.mod.trans ((((hx2.ext_trans hx3).ext_trans hx4).ext_trans hx5)) (fun _ _ f => f.elim)⟩
 ·intro k hk
  have := hn k hk
  refine ⟨?_, ?_, ?_⟩ <;> (intro e; simp only at e; omega)
 ·refine ⟨?_, ?_⟩ <;> (intro e; simp only at e; omega)
 ·intro a ha
  cases ha
  refine ⟨?_, ?_, ?_, fun e => ?_⟩
  ·simp only; omega
  ·simp only; omega
  ·simp only; omega
  ·have := hn _ (.inl e)
   simp only at this
   omega
 ·have e0 := HF.out.mod.size
  rintro k (hk | rfl | rfl | rfl)
  ·rcases hk with hk | hk
   ·exact .inl (HF.out.new k hk)
   ·exact .inr (by rw [hk, HF.out.dice])
  ·exact .inl (by first | omega | (simp only; omega))
  ·exact .inl (by first | omega | (simp only; omega))
  ·exact .inl (by first | omega | (simp only; omega))
end Go.Proofs.YthlmgoagnfkhdaaGreat
namespace Go.Gim
theorem grownE_add : ∀ (l : List Ed) (n d : Int), grownE (n + d) l = grownE n l + d := by
 intro l
 induction l with
 | nil => intro n d; rfl
 | cons x r ih => intro n d; show grownE (n + d + dE x) r = grownE (n + dE x) r + d; rw [← ih]; congr 1; omega
theorem grownE_cons (n : Int) (e : Ed) (r : List Ed) : grownE n (e :: r) = grownE n r + dE e := grownE_add r n (dE e)
theorem ord_grown {n : Nat} : ∀ {l : List Ed} {c : Nat}, Ord n c l → (∀ e ∈ l, 0 ≤ e.a ∧ 0 ≤ e.b) → (c : Int) ≤ grownE n l := by
 intro l
 induction l with
 | nil => intro c h _; have : c ≤ n := h.le; show (c : Int) ≤ n; omega
 | cons e r ih =>
  intro c h h0
  obtain ⟨h1, h2, h3⟩ := h
  have hi := ih h3 (fun x hx => h0 x (by simp [hx]))
  obtain ⟨p1, p2⟩ := h0 e (by simp)
  have hA : ((A e : Nat) : Int) = e.a := Int.toNat_of_nonneg p1
  have hZ : ((Z e : Nat) : Int) = e.b := Int.toNat_of_nonneg p2
  rw [grownE_cons]
  unfold dE
  omega
theorem fold_in {right : Bool} {n : Nat} : ∀ {l : List Ed} {c : Nat}, Ord n c l → (∀ e ∈ l, 0 ≤ e.a ∧ 0 ≤ e.b) → ∀ o : Int, 0 ≤ o → o ≤ n → 0 ≤ foldE right l o ∧ foldE right l o ≤ grownE n l := by
 intro l
 induction l with
 | nil => intro c _ _ o h1 h2; exact ⟨h1, h2⟩
 | cons e r ih =>
  intro c h h0 o o1 o2
  obtain ⟨h1, h2, h3⟩ := h
  obtain ⟨i1, i2⟩ := ih h3 (fun x hx => h0 x (by simp [hx])) o o1 o2
  have hg := ord_grown h3 (fun x hx => h0 x (by simp [hx]))
  obtain ⟨p1, p2⟩ := h0 e (by simp)
  have hA : ((A e : Nat) : Int) = e.a := Int.toNat_of_nonneg p1
  have hZ : ((Z e : Nat) : Int) = e.b := Int.toNat_of_nonneg p2
  have hst : foldE right (e :: r) o = oneE right (foldE right r o) e := rfl
  rw [grownE_cons, hst]
  generalize foldE right r o = q at *
  unfold oneE dE
  split
  ·omega
  ·split
   ·omega
   ·split <;> omega
theorem moveE_fold (right : Bool) (es : List Ed) (o : Int) : moveE right es o = foldE right (sorted lessE es) o := by
 unfold moveE foldE
 rw [List.foldl_reverse]
theorem ranged_in {n : Int} {es : List Ed} (h : rangedE n es = 0) : ∀ e ∈ sorted lessE es, 0 ≤ e.a ∧ 0 ≤ e.b := fun e he => by
 have := rangedE_mem h e ((sorted_mem lessE es e).1 he)
 omega
theorem moveE_in {right : Bool} {n : Nat} {es : List Ed} (h : rangedE n es = 0) {o : Int} (h0 : 0 ≤ o) (h1 : o ≤ n) : 0 ≤ moveE right es o ∧ moveE right es o ≤ grownE n es := by
 rw [moveE_fold, ← grownE_sorted]
 exact fold_in (ord_of rfl h) (ranged_in h) o h0 h1
theorem applyL_len {s : By} {es : List Ed} (h : rangedE (s.length : Nat) es = 0) : ((applyL s es).length : Int) = grownE s.length es := by
 have hO := ord_of (m := s.length) rfl h
 unfold applyL
 rw [do_all_is s _ 0 hO, List.take_zero, List.nil_append, rest_len s _ 0 hO (ranged_in h), grownE_sorted]
 omega
theorem selsM_in {n : Nat} {es : List Ed} (h : rangedE n es = 0) {q : List (Int × Int)} (hq : InT n q) : InT (grownE n es) (selsM es q) := by
 intro x hx
 refine mayB_in (orderN_in _ (may_fuse _) ?_ x hx)
 intro y hy
 obtain ⟨z, hz, rfl⟩ := List.mem_map.1 hy
 obtain ⟨z1, z2, z3, z4⟩ := hq z hz
 rw [mayB_span]
 have h1 := moveE_in (right := true) h z1 z3
 have h2 := moveE_in (right := true) h z2 z4
 unfold moveS
 simp only
 omega
theorem selsM_len (es : List Ed) (q : List (Int × Int)) : (selsM es q).length ≤ q.length := by
 unfold selsM
 have := orderN_len (q.map (moveS es))
 rwa [List.length_map] at this
theorem selsM_pos (es : List Ed) {q : List (Int × Int)} (h : 0 < q.length) : 0 < (selsM es q).length := by
 unfold selsM
 exact orderN_pos (by rw [List.length_map]; exact h)
theorem grownE_most {c : Nat} : ∀ (es : List Ed) (n : Int), (∀ e ∈ es, e.a ≤ e.b ∧ e.t.size ≤ c) → grownE n es ≤ n + (es.length * c : Nat) := by
 intro es
 induction es with
 | nil => intro n _; simp [grownE]
 | cons e r ih =>
  intro n h
  obtain ⟨h1, h2⟩ := h e (by simp)
  have := ih n (fun x hx => h x (by simp [hx]))
  rw [grownE_cons, List.length_cons, Nat.add_mul, Nat.one_mul]
  unfold dE
  omega
theorem inT_of {n : Int} {q : List (Int × Int)} (h : ∀ x ∈ q, mayB (spanI x) n = true) : InT n q := fun x hx => mayB_in (h x hx)
theorem goL_in {t : List UInt8} {way : Int} {ext : Bool} {l : List (Int × Int)} : InT t.length (goL t way ext l) := by
 unfold goL
 split
 ·exact inT_of normL_in
 ·intro x hx; cases hx
theorem goL_len (t : List UInt8) (way : Int) (ext : Bool) (l : List (Int × Int)) : (goL t way ext l).length ≤ l.length := by
 unfold goL
 split
 ·have h1 := normL_len t.length ((normL t.length l).map (turned t way ext))
  have h2 := normL_len t.length l
  rw [List.length_map] at h1
  omega
 ·simp
theorem goL_pos {t : List UInt8} {way : Int} {ext : Bool} {l : List (Int × Int)} (h : goE t.length way l = 0) : 0 < (goL t way ext l).length := by
 unfold goL
 rw [if_pos h]
 have hn : normE t.length l = 0 := by
  unfold goE at h
  split at h
  ·exact h
  ·cases h
 have h2 := go_again (way := way) (ext := ext) hn
 rw [normL_ok h2]
 exact orderN_pos (normE_ok h2).1
theorem orderN_inT {n : Int} {l : List (Int × Int)} (h : normE n l = 0) : InT n (orderN l) := inT_of (orderN_in _ (may_fuse n) (normE_ok h).2.2)
theorem typedL_len (t : ByteArray) (q : List (Int × Int)) : (typedL t q).length = q.length := List.length_map _
end Go.Gim
namespace Go.Proofs.YthlmgoagnfkhdaaGreat
open Go.RowKit Go.Gim
theorem sdo_no (S : Sh) (ao : Option Addr) (cap : Nat) (es : List Ed) (w : World) (h : SheetAt w S) (hs : S.s.size ≤ 65536) (he : Reads w 3 ao es.length (edE.cells es)) (hn : es.length ≤ 19) (ht : ∀ e ∈ es, e.t.size ≤ 100000) (hm : mayE S.s.size es ≠ 0) :
  Calls Tryz.prog 17 #[.pointer (some ⟨S.sb, 0, none⟩), .slice ao es.length cap] w fun e w' => e = .returned (.tuple #[.slice none 0 0, .int .i64 (mayE S.s.size es)]) ∧ Ext w w' := by
 have HM := Lib.hid (cmay_any S.s.size ao cap es w he hn (by omega) (by omega) ht)
 have HL := Lib.hid (len_any S.R w h.rope)
 rw [size_of h.text] at HL
 have d0 := h.blk.cell 0
 simp only [List.getElem?_toArray, List.getElem?_cons_zero] at d0
 have hlb := h.blk.lt
 generalize mayE S.s.size es = C at *
 have hz : (C != 0) = true := by simpa using hm
 clear h he hm ht
 go_enter Tryz.func17, Tryz.ntmps17
 go_wp2_with fail
 refine HL.out.mono ?_
 rintro e w1 ⟨rfl, rfl⟩
 go_wp2_with fail
 refine HM.out.mono ?_
 rintro e w2 ⟨rfl, hx⟩
 clear HL HM
 go_wp2_with fail
 go_ret2
 exact ⟨rfl, hx⟩
def DoPost (S : Sh) (es : List Ed) (w : World) (e : Ending) (w' : World) : Prop :=
 ∃ (S' : Sh) (a2 : Option Addr) (c2 : Nat), e = .returned (.tuple #[.slice a2 (backE S.s es).length c2, .int .i64 0]) ∧ w'.ownsRow w.heap.size 59 3 (.slice a2 (backE S.s es).length c2) (backE S.s es).length (edE.cells (backE S.s es)) ∧ (∀ a, a2 = some a → ¬ ShS S' a.block) ∧
  ShDone S S' w w' ∧ S'.s.data.toList = applyL S.s.data.toList es ∧ S'.L = moveT es S.L ∧ S'.last = S.last ∧ S'.q = selsM es S.q
theorem sdo_yes (S : Sh) (Bd : Int) (ao : Option Addr) (cap : Nat) (es : List Ed) (w : World) (h : SheetAt w S) (hs : S.s.size ≤ 65536) (he : Reads w 3 ao es.length (edE.cells es)) (hn : es.length ≤ 19) (ht : ∀ e ∈ es, e.t.size ≤ 100000) (hm : mayE S.s.size es = 0)
  (hfar : 0 < es.length → ∀ a, ao = some a → ¬ ShS S a.block) (hq0 : 0 < S.q.length) (hq1 : S.q.length ≤ 19) (hq : ∀ x ∈ S.q, 0 ≤ x.1 ∧ x.1 ≤ 900000000 ∧ 0 ≤ x.2 ∧ x.2 ≤ 900000000) (hT : Tok S.L S.last Bd) (hB : 65536 ≤ Bd) (hB2 : Bd ≤ 900000000) :
  Calls Tryz.prog 17 #[.pointer (some ⟨S.sb, 0, none⟩), .slice ao es.length cap] w (DoPost S es w) := by
 obtain ⟨hrz, hgr⟩ := mayE_zero hm
 have hok : ∀ e ∈ es, EdOk e := fun e he => by obtain ⟨h1, h2, h3⟩ := rangedE_mem hrz e he; exact ⟨h1, h2, by omega, ht e he⟩
 have hO := ord_of (m := S.s.size) rfl hrz
 have h00 : ∀ e ∈ sorted lessE es, 0 ≤ e.a ∧ 0 ≤ e.b := fun e he => by have := rangedE_mem hrz e ((sorted_mem lessE es e).1 he); exact ⟨this.1, by omega⟩
 have hgS : grownE (S.s.data.toList.length : Nat) (sorted lessE es) ≤ 65536 := by rw [grownE_sorted]; exact hgr
 have HM := Lib.hid (cmay_any S.s.size ao cap es w he hn (by omega) (by omega) ht)
 rw [hm] at HM
 have HL := Lib.hid (len_any S.R w h.rope)
 rw [size_of h.text] at HL
 have HTx := Lib.hid (fun w' (h' : Ext w w') => text_rope S.R w' (h.rope.ext h'))
 rw [bs_eq h.text] at HTx
 have HBk := Lib.hid (fun w' (h' : Ext w w') => cback_yes S.s ao cap es w' hs (he.mod h' (fun _ _ f => f)) hn ht hm)
 have HSo := Lib.hid (fun w' (h' : Ext w w') => sortC_any ao cap es w' (he.mod h' (fun _ _ f => f)) hn)
 have H := Lib.hid h
 have He := Lib.hid he
 have Hfar := Lib.hid hfar
 have HT := Lib.hid hT
 have Hok := Lib.hid hok
 have Hrz := Lib.hid (rangedE_more hrz (show (S.s.size : Int) ≤ 65536 by omega))
 have Ht := Lib.hid ht
 have Hq := Lib.hid hq
 have Hap := Lib.hid (show applyL S.s.data.toList es = (sorted lessE es).foldr doE S.s.data.toList from rfl)
 have HokS := Lib.hid (show ∀ e ∈ sorted lessE es, EdOk e from fun e he => hok e ((sorted_mem lessE es e).1 he))
 have hSl := sorted_length lessE es
 unfold BackPost at HBk
 unfold DoPost
 generalize sorted lessE es = E at *
 generalize backE S.s es = Bk at *
 obtain ⟨N, hN⟩ : ∃ N, N = es.length := ⟨_, rfl⟩
 have HN := Lib.hid hN
 rw [← hN] at hn hSl HM HSo HBk ⊢
 have HSl := Lib.hid hSl
 have HO := Lib.hid hO
 have H00 := Lib.hid h00
 have HgS := Lib.hid hgS
 have d0 := h.blk.cell 0
 simp only [List.getElem?_toArray, List.getElem?_cons_zero] at d0
 have hlb := h.blk.lt
 clear hrz hgr hok hO h00 hgS h he ht hm hfar hq hT hN hSl
 go_enter Tryz.func17, Tryz.ntmps17
 go_wp2_with fail
 refine HL.out.mono ?_
 rintro e w ⟨rfl, rfl⟩
 clear HL
 go_wp2_with fail
 refine HM.out.mono ?_
 rintro e w1 ⟨rfl, hx1⟩
 clear HM d0 hlb
 have HTx1 := Lib.hid (HTx.out w1 hx1)
 have hb1 := (H.out.ext hx1).blk
 have d0 := hb1.cell 0
 simp only [List.getElem?_toArray, List.getElem?_cons_zero] at d0
 have hlb := hb1.lt
 clear hb1 HTx
 go_wp2_with fail
 refine HTx1.out.mono ?_
 rintro e w2 ⟨rfl, hx2⟩
 have hy2 := hx1.ext_trans hx2
 have HBk2 := Lib.hid (HBk.out w2 hy2)
 clear HTx1 HBk d0 hlb hx2
 go_wp2_with fail
 refine HBk2.out.mono ?_
 rintro e w3 ⟨ab, cb, rfl, hob, hx3⟩
 have hy3 := hy2.ext_trans hx3
 have HSo3 := Lib.hid (HSo.out w3 hy3)
 have Hob := Lib.hid hob
 have Hz2 := Lib.hid hy2.size
 clear HBk2 HSo hob hx3 hx1 hy2
 go_wp2_with fail
 refine HSo3.out.mono ?_
 rintro e w4 ⟨a1, c1, rfl, hrd, hfs, hx4⟩
 have hy4 := hy3.ext_trans hx4
 have Hrd := Lib.hid hrd
 have Hfs := Lib.hid (show 0 < N → ∀ a, a1 = some a → ¬ ShS S a.block from fun hz a ha => H.out.free (Nat.le_trans hy3.size (hfs hz a ha)))
 have H4 := Lib.hid (H.out.ext hy4)
 clear HSo3 hrd hfs
 go_wp2_with fail
 go_loopw [10] (fun i wr => ∃ (c : Nat) (j : Int) (R' : Rp), c ≤ N ∧ j = (c : Int) - 1 ∧ i = .int .i64 j ∧ Hid (ShDone S { S with R := R', s := bs (cutTo S.s.data.toList E c) } w4 wr)) (fun i _ => (intOf i + 1).toNat)
 case atStart => exact ⟨N, _, S.R, Nat.le_refl _, rfl, rfl, Lib.hid (by rw [cutTo_all _ _ (by rw [HSl.out]; exact Nat.le_refl _)]; exact ShDone.refl H4.out)⟩
 case round =>
  obtain ⟨c, j, R', hc, hj, rfl, HD⟩ := hrel
  by_cases hc0 : c = 0
  ·have hjn : ¬ (0 : Int) ≤ j := by omega
   subst hc0
   clear hj
   go_wp2_with fail
   go_loopw [11, 67] (fun g i wq => ∃ (k : Nat) (R2 : Rp), k ≤ N ∧ i = .int .i64 k ∧ g = .int .i64 (putTo S.s.data.toList E k).2 ∧ Hid (ShDone S { S with R := R2, s := bs (putTo S.s.data.toList E k).1 } w4 wq)) (fun _ i _ => N - (intOf i).toNat)
   case atStart => exact ⟨0, R', by omega, rfl, by rw [putTo_zero], Lib.hid (by rw [putTo_zero]; exact HD.out)⟩
   case round =>
    clear HD
    obtain ⟨k, R2, hk, rfl, rfl, HD⟩ := hrel
    by_cases hlt : k < N
    ·have hlt' : (k : Int) < (N : Int) := by omega
     have hk0 : (0 : Int) ≤ (k : Int) := by omega
     have hdl : k < E.length := by rw [HSl.out]; omega
     obtain ⟨be, oe, rfl⟩ := Hrd.out.some (by omega)
     obtain ⟨p0, p1, p2⟩ := reads_ed (reads_mod0 Hrd.out HD.out.mod Hfs.out) (List.getElem?_eq_getElem hdl)
     have hxd := List.getElem?_eq_getElem hdl
     have Hst := Lib.hid (putTo_step S.s.data.toList hxd)
     have hfit := putTo_fit HO.out H00.out hxd
     have hmo := putTo_most HO.out H00.out hxd HgS.out
     obtain ⟨k1, k2, k3, k4⟩ := HokS.out _ (List.getElem_mem hdl)
     generalize E[k] = e at *
     obtain ⟨ea, eb, et⟩ := e
     simp only at p0 p1 p2 k1 k2 k3 k4 hfit hmo
     have Htext := Lib.hid HD.out.at_.text
     generalize putTo S.s.data.toList E k = P at *
     obtain ⟨T0, g⟩ := P
     simp only at hfit hmo Htext
     obtain ⟨f1, f2⟩ := hfit
     have f3 : ea + g ≤ 65536 := by omega
     have f4 : g ≤ 65536 := by omega
     have f5 : -65536 ≤ g := by omega
     have hsr := size_of HD.out.at_.text
     simp only at hsr
     rw [bs_size] at hsr
     have Hins := Lib.hid (fun w' (h' : Ext wr w') => insert_yes R2 (ea + g) et w' (HD.out.at_.rope.ext h') (rises_of ⟨f1, Int.le_refl _, by rw [hsr]; exact f2⟩) (by rw [hsr]; exact hmo))
     have HL := Lib.hid (fun w' => spLen_any (ea, eb) w' (by simp only; omega) (by simp only; omega))
     have s1 : IntKind.i64.wrap ((et.size : Int) - (eb - ea)) = (et.size : Int) - (eb - ea) := IntWalk.i64_in _ (by omega)
     have s2 : IntKind.i64.wrap (g + ((et.size : Int) - (eb - ea))) = g + ((et.size : Int) - (eb - ea)) := IntWalk.i64_in _ (by omega)
     have hbe := World.block_lt_of_cell? wr _ p0
     clear hxd hdl f2 hmo hsr
     go_upto_region 16 with fail
     obtain ⟨u, hu⟩ : ∃ u, u = wr.alloc (.cells #[.int .i64 ea, .int .i64 eb, .string et] 59) := ⟨_, rfl⟩
     have hxu : Ext wr u := by rw [hu]; exact (Mod.refl _ wr).alloc _
     have hbu : Blk u wr.heap.size 59 #[.int .i64 ea, .int .i64 eb, .string et] := by rw [hu]; exact Blk.new _ _ _
     rw [← hu]
     clear p0 p1 p2 hbe hu
     have c0 : u.cell? ⟨wr.heap.size, 0, none⟩ = some (.int .i64 ea) := hbu.cell 0
     have c1 : u.cell? ⟨wr.heap.size, 1, none⟩ = some (.int .i64 eb) := hbu.cell 1
     have c2 : u.cell? ⟨wr.heap.size, 2, none⟩ = some (.string et) := hbu.cell 2
     have hlu := hbu.lt
     have d0 := (HD.out.at_.ext hxu).blk.cell 0
     simp only [List.getElem?_toArray, List.getElem?_cons_zero] at d0
     have hlb2 : S.sb < u.heap.size := (HD.out.at_.ext hxu).blk.lt
     refine wp_region_ext_tail 12 (by kernel_rfl) (by kernel_rfl) ?_
     simp only [List.take_succ_cons, List.take_zero, List.drop_succ_cons, List.drop_zero]
     repeat (go_big_quiet_step (fail))
     refine wpQuiet_nil ?_
     intro we hxe
     have hxq := hxu.ext_trans hxe
     have HDe := Lib.hid (HD.out.ext hxq)
     have Hins2 := Lib.hid (Hins.out we hxq)
     have hbe := hbu.mod hxe (fun f => f)
     have Hfl := Lib.hid (fun e => Nat.lt_irrefl wr.heap.size (HD.out.at_.rope.flt _ e))
     unfold DonePost at Hins2
     clear HD Hins c0 c1 c2 hlu d0 hlb2 hbu hxu hxe hxq
     go_wp2_with fail
     refine Hins2.out.mono ?_
     rintro e w7 ⟨rfl, R3, hdn⟩
     have hb7 := hbe.mod hdn.mod Hfl.out
     have HN7 := Lib.hid (HDe.out.trans (HDe.out.at_.roped (t := bs (splice T0 (ea + g) (ea + g) et.data.toList)) hdn (by
      have h1 : R2.text = T0 := Htext.out
      rw [h1]; rfl)))
     have c0 : w7.cell? ⟨wr.heap.size, 0, none⟩ = some (.int .i64 ea) := hb7.cell 0
     have c1 : w7.cell? ⟨wr.heap.size, 1, none⟩ = some (.int .i64 eb) := hb7.cell 1
     have c2 : w7.cell? ⟨wr.heap.size, 2, none⟩ = some (.string et) := hb7.cell 2
     have hlu := hb7.lt
     clear hdn HDe Hins2 hbe hb7 Htext Hfl
     go_upto_region 17 with fail
     refine wp_region_ext_lit (by kernel_rfl) (by kernel_rfl) ?_
     repeat (go_big_quiet_step (exact Calls.ext_of (HL.out _)))
     refine wpQuiet_nil ?_
     intro w9 hx9
     have HN9 := Lib.hid (HN7.out.ext hx9)
     clear c0 c1 c2 hlu HL HN7
     go_wp2_with fail
     go_roundw
     case rel => exact ⟨k + 1, R3, by omega, by go_num, by rw [Hst.out]; rfl, Lib.hid (by rw [Hst.out]; exact HN9.out)⟩
     case measure => simp [intOf]; omega
    ·have hlt' : ¬ (k : Int) < (N : Int) := by omega
     obtain rfl : k = N := by omega
     have HA := Lib.hid (show (putTo S.s.data.toList E k).1 = applyL S.s.data.toList es by rw [Hap.out]; exact putTo_all HO.out H00.out (by rw [HSl.out]; exact Nat.le_refl _))
     generalize putTo S.s.data.toList E k = P at *
     obtain ⟨T0, g⟩ := P
     simp only at HA HD
     have hsz4 := Lib.hid hy4.size
     have Heq := Lib.hid (reads_mod0 (He.out.mod hy4 (fun _ _ f => f)) HD.out.mod Hfar.out)
     have HV := Lib.hid (tmove_all S.tb S.mb S.L S.last Bd es ao cap wr HD.out.at_.tab HT.out hB hB2 Heq.out (by rw [← HN.out]; exact hn) Ht.out (fun hz a ha e => Hfar.out hz a ha (.inr (.inr e))))
     rw [← HN.out] at HV
     have d1 := HD.out.at_.blk.cell 1
     simp only [List.getElem?_toArray, List.getElem?_cons_zero, List.getElem?_cons_succ] at d1
     have hlb2 : S.sb < wr.heap.size := HD.out.at_.blk.lt
     go_wp2_with fail
     refine HV.out.mono ?_
     rintro e w8 hp8
     rcases hp8 with ⟨_, rfl, h8, hm8⟩ | ⟨hne, _⟩
     ·have HD8 := Lib.hid (HD.out.trans (HD.out.at_.tabbed h8 hm8))
      have He8 := Lib.hid (reads_mod0 Heq.out hm8 (fun hz a ha e => Hfar.out hz a ha (.inr (.inr e))))
      have HSm := Lib.hid (smove_any S.ao S.c S.q ao cap es w8 HD8.out.at_.rd hq0 hq1 He8.out (by rw [← HN.out]; exact hn) Hok.out Hq.out)
      rw [← HN.out] at HSm
      unfold NewRow at HSm
      have d2 := HD8.out.at_.blk.cell 2
      simp only [List.getElem?_toArray, List.getElem?_cons_zero, List.getElem?_cons_succ] at d2
      have hlb8 : S.sb < w8.heap.size := HD8.out.at_.blk.lt
      clear HV h8 hm8 d1 hlb2 HD Heq
      go_wp2_with fail
      refine HSm.out.mono ?_
      rintro e w9 ⟨g9, c9, rfl, hown9, hx9⟩
      have HD9 := Lib.hid (HD8.out.ext hx9)
      have Hown9 := Lib.hid hown9
      have hb9 := HD9.out.at_.blk
      have d2 := hb9.cell 2
      simp only [List.getElem?_toArray, List.getElem?_cons_zero, List.getElem?_cons_succ] at d2
      have f2 := hb9.free 2
      have hlb9 : S.sb < w9.heap.size := hb9.lt
      clear HSm hlb8 hown9 hb9
      go_wp2_with fail
      go_ret2
      have hge := (owns_block Hown9.out).1
      have hD10 := HD9.out.trans (SheetAt.picked (a' := some ⟨g9, 0, none⟩) (c' := c9) (q' := selsM es S.q) HD9.out.at_ (ownsRow_base Hown9.out (Nat.zero_le _)) (fun a ha => by
       cases ha
       have a1 : S.sb < w8.heap.size := HD8.out.at_.blk.lt
       have a2 : S.tb < w8.heap.size := HD8.out.at_.tab.blk.lt
       have a3 : S.mb < w8.heap.size := HD8.out.at_.tab.map.lt
       refine ⟨?_, ?_, ?_, fun e => ?_⟩
       ·show g9 ≠ S.sb; omega
       ·show g9 ≠ S.tb; omega
       ·show g9 ≠ S.mb; omega
       ·have := HD8.out.at_.rope.flt _ e
        simp only at this
        omega) rfl)
      have hfb : ∀ a, ab = some a → Hid (w.heap.size ≤ a.block) ∧ a.block < w4.heap.size := fun a ha => by
       have h1 := Hob.out.lt a.block (by rw [ha]; rfl)
       have h2 := Hz2.out
       have h3 := hx4.size
       exact ⟨Lib.hid (by omega), by omega⟩
      refine ⟨_, ab, cb, rfl, own_mod (ownsRow_base (ownsRow_mod Hob.out hx4 (fun _ _ f => f)) Hz2.out) hD10.mod (fun a ha e => by
       have h1 := (hfb a ha).1.out
       have h2 := H.out.lt _ e
       omega), fun a ha e => ?_, ShDone.after hy4 hD10, HA.out, rfl, rfl, rfl⟩
      have h1 := (hfb a ha).1.out
      have h2 := H.out.lt _ (hD10.grew _ (hfb a ha).2 e)
      omega
     ·exact absurd Hrz.out hne
  ·obtain ⟨d, rfl⟩ : ∃ d, c = d + 1 := ⟨c - 1, by omega⟩
   obtain rfl : j = (d : Int) := by omega
   have hd0 : (0 : Int) ≤ (d : Int) := by omega
   have hd1 : (d : Int) < (N : Int) := by omega
   have hdl : d < E.length := by rw [HSl.out]; omega
   obtain ⟨be, oe, rfl⟩ := Hrd.out.some (by omega)
   have hre6 := reads_mod0 Hrd.out HD.out.mod Hfs.out
   obtain ⟨p0, p1, p2⟩ := reads_ed hre6 (List.getElem?_eq_getElem hdl)
   have hxd := List.getElem?_eq_getElem hdl
   have Hst := Lib.hid (cutTo_step S.s.data.toList hxd)
   have hfit := cutTo_fit HO.out hxd
   obtain ⟨k1, k2, k3, k4⟩ := HokS.out _ (List.getElem_mem hdl)
   generalize E[d] = e at *
   obtain ⟨ea, eb, et⟩ := e
   simp only at p0 p1 p2 k1 k2 k3 k4
   have hsr := size_of HD.out.at_.text
   have hri : risesB ea eb R'.t.size = true := by
    refine rises_of ⟨k1, k2, ?_⟩
    have h1 : ((eb.toNat : Nat) : Int) = eb := Int.toNat_of_nonneg (by omega)
    have h2 : eb.toNat ≤ (cutTo S.s.data.toList E (d + 1)).length := hfit.2
    have h3 : R'.t.size = (cutTo S.s.data.toList E (d + 1)).length := hsr
    rw [h3]
    omega
   have Hdel := Lib.hid (fun w' (h' : Ext wr w') => delete_yes R' ea eb w' (HD.out.at_.rope.ext h') hri)
   have d0 := HD.out.at_.blk.cell 0
   simp only [List.getElem?_toArray, List.getElem?_cons_zero] at d0
   have hlb := HD.out.at_.blk.lt
   have hlb2 : S.sb < wr.heap.size := hlb
   have hbe := World.block_lt_of_cell? wr _ p0
   clear hj hre6 hxd hfit hdl hsr hri hc0 hlb
   go_upto_region 11 with fail
   refine wp_region_ext_tail 17 (by kernel_rfl) (by kernel_rfl) ?_
   simp only [List.take_succ_cons, List.take_zero, List.drop_succ_cons, List.drop_zero]
   repeat (go_big_quiet_step (fail))
   refine wpQuiet_nil ?_
   intro we hxe
   have HDe := Lib.hid (HD.out.ext hxe)
   have Hdel2 := Lib.hid (Hdel.out we hxe)
   unfold DonePost at Hdel2
   clear HD Hdel p0 p1 p2 d0 hlb2 hbe hxe
   go_wp2_with fail
   refine Hdel2.out.mono ?_
   rintro e w7 ⟨rfl, R'', hdn⟩
   have HN7 := Lib.hid (HDe.out.trans (HDe.out.at_.roped (t := bs (cutTo S.s.data.toList E d)) hdn (by
    show splice R'.text ea eb [] = cutTo S.s.data.toList E d
    rw [Hst.out]
    have := HDe.out.at_.text
    simp only at this
    rw [this]
    rfl)))
   clear hdn HDe Hdel2
   go_wp2_with fail
   go_roundw
   case rel => exact ⟨d, _, R'', by omega, rfl, by go_num, Lib.hid HN7.out⟩
   case measure => simp [intOf]
end Go.Proofs.YthlmgoagnfkhdaaGreat

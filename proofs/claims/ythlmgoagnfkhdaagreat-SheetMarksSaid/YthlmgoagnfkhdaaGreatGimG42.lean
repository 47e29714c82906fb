/- What the document tells of a sheet, in memory: its block, its selections, its table; it and a sheet lie apart by the blocks' types. Conditions: none. -/
import Derived.Test.YthlmgoagnfkhdaaGreatGimG41
import Derived.Test.YthlmgoagnfkhdaaGreatGimG35
import Derived.Test.YthlmgoagnfkhdaaGreatGimG39
import Derived.Test.YthlmgoagnfkhdaaGreatGimG28
import Derived.Test.YthlmgoagnfkhdaaGreatGimG30
import Derived.Test.YthlmgoagnfkhdaaGreatGimG40
import Derived.Test.YthlmgoagnfkhdaaGreatGimG29
import Derived.Test.YthlmgoagnfkhdaaGreatGimG31
import Derived.Test.YthlmgoagnfkhdaaGreatGimG21
import Derived.Test.YthlmgoagnfkhdaaGreatGimG22
set_option maxHeartbeats 6400000
set_option maxRecDepth 1000000
set_option linter.unusedVariables false
set_option linter.unusedSimpArgs false
namespace Go.Proofs.YthlmgoagnfkhdaaGreat
open Go.RowKit Go.Gim
def shT (T : TypeId) : Prop := T = 111 ∨ T = nodeT ∨ T = 102 ∨ T = 45 ∨ T = 120
theorem tree_types {w : World} : ∀ {t : T}, TreeAt w t → ∀ k ∈ t.blocks, ∃ cs, Blk w k nodeT cs
 | .nil, _, k, hk => by cases hk
 | .node b own p l r, ⟨hn, hl, hr⟩, k, hk => by
  simp only [T.blocks, List.mem_cons, List.mem_append] at hk
  rcases hk with rfl | hk | hk
  ·exact ⟨_, hn⟩
  ·exact tree_types hl k hk
  ·exact tree_types hr k hk
theorem sheet_types {w : World} {S : Sh} (h : SheetAt w S) {k : Nat} (hk : ShS S k) {cs : Array Value} {T : TypeId} {fr : Nat × Nat} (he : w.heap[k]? = some (.cells cs T fr)) : shT T := by
 have key : ∀ {T' : TypeId} {cs' : Array Value}, Blk w k T' cs' → T = T' := fun hb => by
  unfold Blk at hb
  rw [he] at hb
  cases hb; rfl
 rcases hk with (hk | hk) | rfl | rfl | rfl
 ·rcases List.mem_cons.1 hk with rfl | hk
  ·exact .inl (key h.rope.blk)
  ·obtain ⟨cs', hb⟩ := tree_types h.rope.tree k hk
   exact .inr (.inl (key hb))
 ·subst hk
  obtain ⟨D, hD, hl⟩ := h.rope.dice
  have hb := hD.blk
  rw [hl.1] at hb
  exact .inr (.inr (.inl (key hb)))
 ·exact .inr (.inr (.inr (.inl (key h.blk))))
 ·exact .inr (.inr (.inr (.inr (key h.tab.blk))))
 ·obtain ⟨D, ⟨es, clock, hb, _⟩, _⟩ := h.tab.map
  rw [he] at hb
  cases hb
def papT (T : TypeId) : Prop := refT T ∨ T = 88
theorem papT_sh {T : TypeId} (h : papT T) : ¬ shT T := by
 intro k
 rcases h with (h | h | h) | h <;> rcases k with k | k | k | k | k <;> (rw [h] at k; revert k; decide)
theorem papT_sel : ¬ papT 47 := by
 rintro ((h | h | h) | h) <;> (revert h; decide)
theorem papT_num : ¬ papT 30 := by
 rintro ((h | h | h) | h) <;> (revert h; decide)
theorem papT_ed : ¬ papT 59 := by
 rintro ((h | h | h) | h) <;> (revert h; decide)
theorem refT_paper : ¬ refT 88 := by
 rintro (h | h | h) <;> (revert h; decide)
def PapS (B : Nat) (w : World) (k : Nat) : Prop := B ≤ k ∧ ∃ T cs fr, w.heap[k]? = some (.cells cs T fr) ∧ papT T
theorem PapS.trans {B : Nat} {a b c : World} (h : Mod (PapS B a) a b) (k : Mod (PapS B b) b c) : Mod (PapS B a) a c := by
 refine h.trans k fun i hi hT => ?_
 refine Classical.byContradiction fun hn => hn ?_
 obtain ⟨h1, T, cs, fr, h2, h3⟩ := hT
 exact ⟨h1, T, cs, fr, by rw [← h.block i hi hn]; exact h2, h3⟩
theorem RefS.pap {B k : Nat} {w : World} (h : RefS B w k) : PapS B w k := by
 obtain ⟨h1, T, cs, fr, h2, h3⟩ := h
 exact ⟨h1, T, cs, fr, h2, .inl h3⟩
theorem own_notpap {w : World} {B B' z n : Nat} {T : TypeId} {v : Value} {xs : List Value} (h : w.ownsRow B' T z v n xs) (hT : ¬ papT T) : ∀ k, v.ownBlock = some k → ¬ PapS B w k := by
 intro k hk
 rcases h.2 with ⟨hv, _⟩ | ⟨g, cap, cur, hv, _, hg, _⟩
 ·rw [hv] at hk; cases hk
 ·rw [hv] at hk
  cases hk
  rintro ⟨_, T', cs, fr, h2, h3⟩
  rw [hg] at h2
  cases h2
  exact hT h3
theorem sheet_notpap {B k : Nat} {w : World} {S : Sh} (h : SheetAt w S) (hk : ShS S k) : ¬ PapS B w k := by
 rintro ⟨_, T, cs, fr, h2, h3⟩
 exact papT_sh h3 (sheet_types h hk h2)
theorem SheetAt.pap {B : Nat} {w w' : World} {S : Sh} (h : SheetAt w S) (hm : Mod (PapS B w) w w') : SheetAt w' S := by
 refine h.mod hm (fun k hk => sheet_notpap h hk) ?_ ?_
 ·intro k hk
  obtain ⟨D, hD, hl⟩ := h.rope.dice
  rw [← hl.2.1] at hk
  exact own_notpap hD.row papT_num k hk
 ·intro a ha
  exact own_notpap h.sels papT_sel a.block (by rw [ha]; rfl)
structure Pp where
 pb : Nat
 ao : Option Addr
 c : Nat
 ub : Nat
 v1 : Value
 v2 : Value
structure PapAt (w : World) (B : Nat) (p : Pp) (s : ByteArray) (q : List (Int × Int)) (L : Tb) (last : Int) : Prop where
 blk : Blk w p.pb 88 #[.string s, .slice p.ao q.length p.c, .pointer (some ⟨p.ub, 0, none⟩)]
 base : B ≤ p.pb
 sels : w.ownsRow 0 47 2 (.slice p.ao q.length p.c) q.length (prCells q)
 ref : RefAt w B p.ub p.v1 p.v2 L last
theorem PapAt.blkS {w : World} {B : Nat} {p : Pp} {s : ByteArray} {q : List (Int × Int)} {L : Tb} {last : Int} (h : PapAt w B p s q L last) : PapS B w p.pb := ⟨h.base, _, _, _, h.blk, .inr rfl⟩
theorem PapAt.mod {T : Nat → Prop} {w w' : World} {B : Nat} {p : Pp} {s : ByteArray} {q : List (Int × Int)} {L : Tb} {last : Int} (h : PapAt w B p s q L last) (hm : Mod T w w') (h1 : ∀ k, PapS B w k → ¬ T k) (h2 : ∀ a, p.ao = some a → ¬ T a.block) : PapAt w' B p s q L last :=
 ⟨h.blk.mod hm (h1 _ h.blkS), h.base, own_mod h.sels hm h2, h.ref.mod hm (fun k hk => h1 k hk.pap)⟩
theorem PapAt.ext {w w' : World} {B : Nat} {p : Pp} {s : ByteArray} {q : List (Int × Int)} {L : Tb} {last : Int} (h : PapAt w B p s q L last) (hm : Ext w w') : PapAt w' B p s q L last := h.mod hm (fun _ _ f => f) (fun _ _ f => f)
theorem PapAt.sheet {w w' : World} {B : Nat} {p : Pp} {s : ByteArray} {q : List (Int × Int)} {L : Tb} {last : Int} {S : Sh} (h : PapAt w B p s q L last) (hS : SheetAt w S) (hm : Mod (ShS S) w w') : PapAt w' B p s q L last := by
 refine h.mod hm (fun k hk e => sheet_notpap hS e hk) ?_
 intro a ha e
 have hk : (Value.slice p.ao q.length p.c).ownBlock = some a.block := by rw [ha]; rfl
 rcases h.sels.2 with ⟨hv, _⟩ | ⟨g, cap, cur, hv, _, hg, _⟩
 ·rw [hv] at hk; cases hk
 ·rw [hv] at hk
  cases hk
  have := sheet_types hS e hg
  rcases this with h | h | h | h | h <;> (revert h; decide)
theorem PapAt.selFar {w : World} {B : Nat} {p : Pp} {s : ByteArray} {q : List (Int × Int)} {L : Tb} {last : Int} (h : PapAt w B p s q L last) (a : Addr) (ha : p.ao = some a) : ¬ PapS B w a.block :=
 own_notpap h.sels papT_sel a.block (by rw [ha]; rfl)
theorem PapAt.texted {w : World} {B : Nat} {p : Pp} {s : ByteArray} {q : List (Int × Int)} {L : Tb} {last : Int} (h : PapAt w B p s q L last) (t : ByteArray) :
  PapAt (w.setCell ⟨p.pb, 0, none⟩ (.string t)) B p t q L last ∧ Mod (PapS B w) w (w.setCell ⟨p.pb, 0, none⟩ (.string t)) := by
 have hm : Mod (· = p.pb) w (w.setCell ⟨p.pb, 0, none⟩ (.string t)) := (Mod.refl (· = p.pb) w).setCell (fun _ => rfl) _
 have hfar : ∀ k, RefS B w k → ¬ k = p.pb := by
  rintro k ⟨_, T, cs, fr, h2, h3⟩ rfl
  have hb := h.blk
  rw [Blk, h2] at hb
  cases hb
  exact refT_paper h3
 refine ⟨⟨h.blk.set 0 _, h.base, own_mod h.sels hm (fun a ha e => h.selFar a ha (by rw [e]; exact h.blkS)), h.ref.mod hm hfar⟩, hm.mono (fun k _ e => by subst e; exact h.blkS)⟩
theorem PapAt.picked {w : World} {B B' : Nat} {p : Pp} {s : ByteArray} {q q' : List (Int × Int)} {a' : Option Addr} {c' : Nat} {L : Tb} {last : Int} (h : PapAt w B p s q L last) (hr : w.ownsRow B' 47 2 (.slice a' q'.length c') q'.length (prCells q')) :
  PapAt (w.setCell ⟨p.pb, 1, none⟩ (.slice a' q'.length c')) B { p with ao := a', c := c' } s q' L last ∧ Mod (PapS B w) w (w.setCell ⟨p.pb, 1, none⟩ (.slice a' q'.length c')) := by
 have hm : Mod (· = p.pb) w (w.setCell ⟨p.pb, 1, none⟩ (.slice a' q'.length c')) := (Mod.refl (· = p.pb) w).setCell (fun _ => rfl) _
 have hfar : ∀ k, RefS B w k → ¬ k = p.pb := by
  rintro k ⟨_, T, cs, fr, h2, h3⟩ rfl
  have hb := h.blk
  rw [Blk, h2] at hb
  cases hb
  exact refT_paper h3
 refine ⟨⟨h.blk.set 1 _, h.base, own_mod (ownsRow_base hr (Nat.zero_le _)) hm (fun a ha e => own_notpap (B := B) hr papT_sel a.block (by simp only at ha; rw [ha]; rfl) (by rw [e]; exact h.blkS)), h.ref.mod hm hfar⟩, hm.mono (fun k _ e => by subst e; exact h.blkS)⟩
theorem PapAt.tabbed {w w' : World} {B : Nat} {p : Pp} {s : ByteArray} {q : List (Int × Int)} {L L' : Tb} {last last' : Int} {v1 v2 : Value} (h : PapAt w B p s q L last) (hr : RefAt w' B p.ub v1 v2 L' last') (hm : Mod (RefS B w) w w') :
  PapAt w' B { p with v1 := v1, v2 := v2 } s q L' last' ∧ Mod (PapS B w) w w' := by
 refine ⟨⟨h.blk.mod hm ?_, h.base, own_mod h.sels hm (fun a ha e => h.selFar a ha e.pap), hr⟩, hm.mono (fun k _ e => e.pap)⟩
 rintro ⟨_, T, cs, fr, h2, h3⟩
 have hb := h.blk
 rw [Blk, h2] at hb
 cases hb
 exact refT_paper h3
theorem rfMoveS_any (ao : Option Addr) (cap : Nat) (l : List (Int × Int)) (a2 : Option Addr) (c2 : Nat) (es : List Ed) (w : World) (hr : Reads w 2 ao l.length (prCells l)) (h0 : 0 < l.length) (hn : l.length ≤ 64)
  (he : Reads w 3 a2 es.length (edE.cells es)) (hes : es.length ≤ 1000) (hok : ∀ e ∈ es, EdOk e) (hin : ∀ x ∈ l, 0 ≤ x.1 ∧ x.1 ≤ 900000000 ∧ 0 ≤ x.2 ∧ x.2 ≤ 900000000) :
  Calls Tryz.prog 91 #[.slice ao l.length cap, .slice a2 es.length c2] w (NewRow 47 (selsM es l) w) := by
 have hl1 : maxLen = 9223372036854775807 := rfl
 have Hr := Lib.hid hr
 have Hin := Lib.hid hin
 have HM := Lib.hid (fun o w' (h' : Ext w w') (h0 : 0 ≤ o) (h1 : o ≤ 1000000000) => rfMove_any true o a2 c2 es w' (he.mod h' (fun _ _ f => f)) hes hok h0 h1)
 have HO := Lib.hid (fun a cp w' (h' : Reads w' 2 a (l.map (moveS es)).length (prCells (l.map (moveS es)))) => refMerge_in a cp (l.map (moveS es)) w' h' (by rw [List.length_map]; exact h0) (by rw [List.length_map]; omega))
 rw [List.length_map] at HO
 unfold NewRow at HO ⊢
 rw [show orderN (l.map (moveS es)) = selsM es l from rfl] at HO
 obtain ⟨N, hN⟩ : ∃ N, N = l.length := ⟨_, rfl⟩
 have HN := Lib.hid hN
 rw [← hN] at hn h0 HO ⊢
 generalize hM : selsM es l = M at *
 clear hr hN hin he hok hes hM
 go_enter Tryz.func91, Tryz.ntmps91
 go_wp2_with fail
 go_loopw [5, 6] (fun v i wr => ∃ k : Nat, k ≤ N ∧ i = .int .i64 k ∧ Hid (wr.ownsRow w.heap.size 47 2 v k (prCells ((l.map (moveS es)).take k))) ∧ Ext w wr) (fun _ i _ => N - (intOf i).toNat)
 case atStart => exact ⟨0, by omega, rfl, Lib.hid (World.ownsRow_nil _ _ _ _), Mod.refl _ _⟩
 case round =>
  obtain ⟨k, hk, rfl, HW, hx⟩ := hrel
  by_cases hlt : k < N
  ·have hlt' : (k : Int) < (N : Int) := by omega
   have hk0 : (0 : Int) ≤ (k : Int) := by omega
   obtain ⟨b, off, rfl⟩ := Hr.out.some (by rw [← HN.out]; omega)
   have hlk : k < l.length := by rw [← HN.out]; exact hlt
   obtain ⟨c0, c1⟩ := reads_pair (Hr.out.mod hx (fun _ _ f => f)) (List.getElem?_eq_getElem hlk)
   have Hts := Lib.hid (show (l.map (moveS es)).take (k + 1) = (l.map (moveS es)).take k ++ [moveS es l[k]] by rw [List.take_succ_eq_append_getElem (by simpa using hlk)]; simp)
   obtain ⟨n0, n1, n2, n3⟩ := Hin.out _ (List.getElem_mem hlk)
   generalize l[k] = x at *
   obtain ⟨p, q⟩ := x
   simp only at c0 c1 n0 n1 n2 n3
   obtain ⟨va, vc, hva, _, _⟩ := ownsRow_shape HW.out
   subst hva
   have hbl := World.block_lt_of_cell? wr _ c0
   have hbl1 : b < wr.heap.size := hbl
   clear hlk hbl
   have HMa := Lib.hid (fun w' (h' : Ext wr w') => HM.out p w' (hx.ext_trans h') n0 (by omega))
   have HMb := Lib.hid (fun w' (h' : Ext wr w') => HM.out q w' (hx.ext_trans h') n2 (by omega))
   have HE := Lib.hid (show moveS es (p, q) = (moveE true es p, moveE true es q) from rfl)
   generalize moveE true es p = P at *
   generalize moveE true es q = Q at *
   go_upto_region 5 with fail
   refine wp_region_ext_tail1 16 (.slice va k vc) _ rfl rfl rfl (by kernel_rfl) (by kernel_rfl) (fun _ _ _ _ h => h) ?_
   simp only [List.take_succ_cons, List.take_zero, List.drop_succ_cons, List.drop_zero, Act.put, List.setIfInBounds_toArray, List.set_cons_zero, List.set_cons_succ, Nat.reduceSub]
   repeat (go_big_quiet_step (first | (with_reducible exact Calls.ext_of (HMa.out _ (Mod.of_below (ext_below _ _)))) | (with_reducible exact Calls.ext_of (HMb.out _ (Mod.of_below (ext_below _ _))))))
   refine wpQuiet_nil ?_
   intro we hxe
   have hye := hx.ext_trans hxe
   have HWe := Lib.hid (ownsRow_mod HW.out hxe (fun _ _ f => f))
   clear c0 c1 hbl1 HMa HMb hxe HW
   go_wp2_with (at_builtin; refine wpList_append_reads rfl _ _ 32 rfl w.heap.size 47 _ 2 16 Tryz.info47 Tryz.underlying32 rfl (by decide) _ k _ rfl (HWe.out.alloc _) _ 1 1 [.int .i64 P, .int .i64 Q] rfl ?hrd (prCells_one [(P, Q)]) (by omega) (by omega) ?hbs ?_)
   case hrd =>
    have := Reads.new we 47 #[.int .i64 P, .int .i64 Q] 2 1 rfl
    simpa using this
   case hbs => have := hye.size; simp; omega
   intro v' w4 hown hm4 hbk
   have hx4 := (hye.alloc _).over hm4 (fun i hi => (HWe.out.lt i hi).1)
   have Hown := Lib.hid hown
   clear hm4 hbk hown
   go_wp2_with fail
   go_roundw
   case rel => exact ⟨k + 1, by omega, by go_num, Lib.hid (by rw [Hts.out, HE.out, prCells_append]; exact Hown.out), hx4⟩
   case measure => simp [intOf]; omega
  ·have hlt' : ¬ (k : Int) < (N : Int) := by omega
   obtain rfl : k = N := by omega
   have hS := HW.out
   rw [List.take_of_length_le (by rw [List.length_map, ← HN.out]; exact Nat.le_refl _)] at hS
   obtain ⟨g, c, hv⟩ := owns_some hS h0
   subst hv
   have HO2 := Lib.hid (HO.out (some ⟨g, 0, none⟩) c wr (Reads.own hS))
   clear hS HW
   go_wp2_with fail
   refine HO2.out.mono ?_
   rintro e w9 ⟨g9, c9, rfl, hown9, hx9⟩
   have Hown9 := Lib.hid hown9
   clear hown9
   go_wp2_with fail
   go_ret
   exact ⟨g9, c9, rfl, ownsRow_base Hown9.out hx.size, hx.ext_trans hx9⟩
theorem editsSame (a b : Option Addr) (c d : Nat) (l : List Ed) (w : World) (ha : Reads w 3 a l.length (edE.cells l)) (hb : Reads w 3 b l.length (edE.cells l)) (hn : l.length ≤ 1000000) :
  Calls Tryz.prog 35 #[.slice a l.length c, .slice b l.length d] w fun e w' => e = .returned (.bool true) ∧ Ext w w' := by
 have Ha := Lib.hid ha
 have Hb := Lib.hid hb
 obtain ⟨N, hN⟩ : ∃ N, N = l.length := ⟨_, rfl⟩
 have HN := Lib.hid hN
 rw [← hN] at hn ⊢
 clear ha hb hN
 go_enter Tryz.func35, Tryz.ntmps35
 go_wp2_with fail
 go_loopw [5] (fun i wr => ∃ k : Nat, k ≤ N ∧ i = .int .i64 k ∧ Ext w wr) (fun i _ => N - (intOf i).toNat)
 case atStart => exact ⟨0, by omega, rfl, Mod.refl _ _⟩
 case round =>
  obtain ⟨k, hk, rfl, hx⟩ := hrel
  by_cases hlt : k < N
  ·have hlt' : (k : Int) < (N : Int) := by omega
   have hk0 : (0 : Int) ≤ (k : Int) := by omega
   have hlk : k < l.length := by rw [← HN.out]; exact hlt
   obtain ⟨b1, o1, rfl⟩ := Ha.out.some (by omega)
   obtain ⟨b2, o2, rfl⟩ := Hb.out.some (by omega)
   obtain ⟨c0, c1, c2⟩ := reads_ed (Ha.out.mod hx (fun _ _ f => f)) (List.getElem?_eq_getElem hlk)
   obtain ⟨d0, d1, d2⟩ := reads_ed (Hb.out.mod hx (fun _ _ f => f)) (List.getElem?_eq_getElem hlk)
   generalize l[k] = x at *
   obtain ⟨p, q, t⟩ := x
   clear hlk
   go_wp2_with fail
   go_quiet (fail)
   go_wp2_with fail
   go_roundw
   case rel => exact ⟨k + 1, by omega, by go_num, hx.drewN _⟩
   case measure => simp [intOf]; omega
  ·have hlt' : ¬ (k : Int) < (N : Int) := by omega
   go_wp2_with fail
   go_ret
   exact ⟨rfl, hx⟩
theorem notpap_mod {B k : Nat} {w w' : World} (hm : Mod (PapS B w) w w') (hk : k < w.heap.size) (h : ¬ PapS B w k) : ¬ PapS B w' k := by
 rintro ⟨h1, T, cs, fr, h2, h3⟩
 exact h ⟨h1, T, cs, fr, by rw [← hm.block k hk h]; exact h2, h3⟩
theorem ed_lt {w : World} {ao : Option Addr} {n : Nat} {es : List Ed} (h : Reads w 3 ao n (edE.cells es)) (h0 : 0 < n) {a : Addr} (ha : ao = some a) : a.block < w.heap.size := by
 obtain ⟨b, off, e, hc⟩ := h.2 h0
 have hl : 0 < (edE.cells es).length := by rw [h.1]; omega
 have h1 := hc 0 hl
 rw [List.getElem?_eq_getElem hl] at h1
 have hb := World.block_lt_of_cell? w _ h1
 rw [e] at ha
 cases ha
 exact hb
theorem owned_pap {B B' n : Nat} {w w' : World} {v : Value} {l : List Ed} (h : w.ownsRow B' 59 3 v n (edE.cells l)) (hm : Mod (PapS B w) w w') : w'.ownsRow B' 59 3 v n (edE.cells l) :=
 ownsRow_mod h hm (fun k hk => own_notpap h papT_ed k hk)
theorem pdo_no (B : Nat) (p : Pp) (s : ByteArray) (q : List (Int × Int)) (L : Tb) (last : Int) (ao : Option Addr) (cap : Nat) (es : List Ed) (w : World) (h : PapAt w B p s q L last) (hs : s.size ≤ 65536) (he : Reads w 3 ao es.length (edE.cells es)) (hn : es.length ≤ 19) (ht : ∀ e ∈ es, e.t.size ≤ 100000) (hm : mayE s.size es ≠ 0) :
  Calls Tryz.prog 61 #[.pointer (some ⟨p.pb, 0, none⟩), .slice ao es.length cap] w fun e w' => e = .returned (.tuple #[.slice none 0 0, .int .i64 (mayE s.size es)]) ∧ Ext w w' := by
 have HA := Lib.hid (rfApply_no s ao cap es w hs he (by omega) ht hm)
 have d0 := h.blk.cell 0
 simp only [List.getElem?_toArray, List.getElem?_cons_zero] at d0
 have hlb := h.blk.lt
 generalize mayE s.size es = C at *
 generalize es.length = N at *
 have hz1 : (C != 0) = true := by simpa using hm
 clear h he ht hm
 go_enter Tryz.func61, Tryz.ntmps61
 go_wp2_with fail
 refine HA.out.mono ?_
 rintro e w1 ⟨rfl, hx1⟩
 go_wp2_with fail
 go_ret2
 exact ⟨rfl, hx1⟩
def PdoPost (B : Nat) (p : Pp) (s : ByteArray) (q : List (Int × Int)) (L : Tb) (last : Int) (es : List Ed) (w : World) (e : Ending) (w' : World) : Prop :=
 ∃ (p' : Pp) (a2 : Option Addr) (c2 : Nat), e = .returned (.tuple #[.slice a2 (backE s es).length c2, .int .i64 0]) ∧ w'.ownsRow w.heap.size 59 3 (.slice a2 (backE s es).length c2) (backE s es).length (edE.cells (backE s es)) ∧ p'.pb = p.pb ∧ PapAt w' B p' (bs (applyL s.data.toList es)) (selsM es q) (moveT es L) last ∧ Mod (PapS B w) w w'
theorem pdo_yes (B : Nat) (p : Pp) (s : ByteArray) (q : List (Int × Int)) (L : Tb) (last Bd : Int) (ao : Option Addr) (cap : Nat) (es : List Ed) (w : World) (h : PapAt w B p s q L last) (hB : B ≤ w.heap.size) (hs : s.size ≤ 65536) (he : Reads w 3 ao es.length (edE.cells es)) (hn : es.length ≤ 19) (ht : ∀ e ∈ es, e.t.size ≤ 100000) (hm : mayE s.size es = 0)
  (hfar : 0 < es.length → ∀ a, ao = some a → ¬ PapS B w a.block) (hq0 : 0 < q.length) (hq1 : q.length ≤ 64) (hq : ∀ x ∈ q, 0 ≤ x.1 ∧ x.1 ≤ 900000000 ∧ 0 ≤ x.2 ∧ x.2 ≤ 900000000) (hT : Tok L last Bd) (hBd : 65536 ≤ Bd) (hB2 : Bd ≤ 900000000) :
  Calls Tryz.prog 61 #[.pointer (some ⟨p.pb, 0, none⟩), .slice ao es.length cap] w (PdoPost B p s q L last es w) := by
 obtain ⟨hrz, _⟩ := mayE_zero hm
 have hok : ∀ e ∈ es, EdOk e := fun e he => by obtain ⟨h1, h2, h3⟩ := rangedE_mem hrz e he; exact ⟨h1, h2, by omega, ht e he⟩
 have HA := Lib.hid (rfApply_yes s ao cap es w hs he (by omega) ht hm)
 have HK := Lib.hid (fun w' (h' : Ext w w') => rfBack_yes s ao cap es w' hs (he.mod h' (fun _ _ f => f)) (by omega) ht hm)
 have H := Lib.hid h
 have He := Lib.hid he
 have Hfar := Lib.hid hfar
 have HMv := Lib.hid (show moveD L last es = ⟨moveT es L, last, 0, 0⟩ by unfold moveD; rw [if_pos (rangedE_more hrz (show (s.size : Int) ≤ 65536 by omega))])
 have HR := Lib.hid (fun v1 v2 w' (hr : RefAt w' B p.ub v1 v2 L last) (hB' : B ≤ w'.heap.size) (h' : Reads w' 3 ao es.length (edE.cells es)) (hf : 0 < es.length → ∀ a, ao = some a → ¬ RefS B w' a.block) => rmove_any B p.ub v1 v2 L last Bd es ao cap w' hr hB' hT hBd hB2 h' hn ht hf)
 have HS := Lib.hid (fun a c w' (h' : Reads w' 2 a q.length (prCells q)) (h2 : Reads w' 3 ao es.length (edE.cells es)) => rfMoveS_any a c q ao cap es w' h' hq0 hq1 h2 (by omega) hok hq)
 unfold BackPost at HK
 unfold PdoPost
 unfold RcPost at HR
 unfold NewRow at HS
 rw [HMv.out] at HR
 have d0 := h.blk.cell 0
 simp only [List.getElem?_toArray, List.getElem?_cons_zero] at d0
 have hlb := h.blk.lt
 generalize bs (applyL s.data.toList es) = T at *
 generalize selsM es q = Q at *
 generalize backE s es = K at *
 generalize moveT es L = M at *
 obtain ⟨N, hN⟩ : ∃ N, N = es.length := ⟨_, rfl⟩
 rw [← hN] at HA HK HR HS Hfar He hn ⊢
 clear h he ht hm hfar hq hT hok hrz HMv hN
 go_enter Tryz.func61, Tryz.ntmps61
 go_wp2_with fail
 refine HA.out.mono ?_
 rintro e w1 ⟨rfl, hx1⟩
 have H1 := Lib.hid (H.out.ext hx1)
 have Hz1 := Lib.hid hx1.size
 have HK1 := Lib.hid (HK.out w1 hx1)
 clear HA HK d0 hlb
 have d0 := H1.out.blk.cell 0
 simp only [List.getElem?_toArray, List.getElem?_cons_zero] at d0
 have hlb := H1.out.blk.lt
 go_wp2_with fail
 refine HK1.out.mono ?_
 rintro e w2 ⟨ab, cb, rfl, hob, hx2⟩
 have H2 := Lib.hid (H1.out.ext hx2)
 have Hob := Lib.hid hob
 have hy2 := hx1.ext_trans hx2
 clear HK1 d0 hlb hob H1
 have d0 := H2.out.blk.cell 0
 simp only [List.getElem?_toArray, List.getElem?_cons_zero] at d0
 have hlb := H2.out.blk.lt
 have f0 := H2.out.blk.free 0
 go_upto_region 6 with fail
 obtain ⟨w3, hw3⟩ : ∃ w3, w3 = w2.setCell ⟨p.pb, 0, none⟩ (.string T) := ⟨_, rfl⟩
 rw [← hw3]
 have hp3 := H2.out.texted T
 rw [← hw3] at hp3
 obtain ⟨h3, hm3⟩ := hp3
 have H3 := Lib.hid h3
 have Hm3 := Lib.hid (show Mod (PapS B w) w w3 from PapS.trans (hy2.any) hm3)
 have Ho3 := Lib.hid (owned_pap Hob.out hm3)
 clear hw3 h3 hm3 d0 hlb f0 H2 hx1 hx2 Hob hy2
 have He3 := Lib.hid (reads_mod0 He.out Hm3.out Hfar.out)
 have Hf3 := Lib.hid (show 0 < N → ∀ a, ao = some a → ¬ PapS B w3 a.block from fun hz a ha => notpap_mod Hm3.out (ed_lt He.out hz ha) (Hfar.out hz a ha))
 have HR3 := Lib.hid (HR.out p.v1 p.v2 w3 H3.out.ref (Nat.le_trans hB Hm3.out.size) He3.out (fun hz a ha hr => Hf3.out hz a ha hr.pap))
 have d2 := H3.out.blk.cell 2
 simp only [List.getElem?_toArray, List.getElem?_cons_zero, List.getElem?_cons_succ] at d2
 have hlb := H3.out.blk.lt
 clear HR He
 go_wp2_with fail
 refine HR3.out.mono ?_
 rintro e w4 ⟨rfl, -, ⟨v1, v2, hr4⟩, hm4⟩
 obtain ⟨h4, hm4'⟩ := H3.out.tabbed hr4 hm4
 have H4 := Lib.hid h4
 have Hm4 := Lib.hid (PapS.trans Hm3.out hm4')
 have Ho4 := Lib.hid (owned_pap Ho3.out hm4')
 have He4 := Lib.hid (reads_mod0 He3.out hm4' Hf3.out)
 clear HR3 hr4 hm4 hm4' h4 d2 hlb H3 Hm3 Ho3 He3 Hf3
 have HS4 := Lib.hid (HS.out p.ao p.c w4 (Reads.own H4.out.sels) He4.out)
 have d1 := H4.out.blk.cell 1
 simp only [List.getElem?_toArray, List.getElem?_cons_zero, List.getElem?_cons_succ] at d1
 have hlb := H4.out.blk.lt
 clear HS He4
 go_wp2_with fail
 refine HS4.out.mono ?_
 rintro e w5 ⟨g5, c5, rfl, ho5, hx5⟩
 have H5 := Lib.hid (H4.out.ext hx5)
 have Hm5 := Lib.hid (PapS.trans Hm4.out (hx5.any))
 have Ho5 := Lib.hid (ownsRow_mod Ho4.out hx5 (fun _ _ f => f))
 have Hq5 := Lib.hid ho5
 clear HS4 ho5 hx5 d1 hlb H4 Hm4 Ho4
 have d1 := H5.out.blk.cell 1
 simp only [List.getElem?_toArray, List.getElem?_cons_zero, List.getElem?_cons_succ] at d1
 have hlb := H5.out.blk.lt
 have f1 := H5.out.blk.free 1
 simp only at f1 hlb
 go_upto_region 8 with fail
 obtain ⟨w6, hw6⟩ : ∃ w6, w6 = w5.setCell ⟨p.pb, 1, none⟩ (.slice (some ⟨g5, 0, none⟩) Q.length c5) := ⟨_, rfl⟩
 rw [← hw6]
 have hp6 := H5.out.picked Hq5.out
 simp only at hp6
 rw [← hw6] at hp6
 obtain ⟨h6, hm6⟩ := hp6
 have H6 := Lib.hid h6
 have Hm6 := Lib.hid (PapS.trans Hm5.out hm6)
 have Ho6 := Lib.hid (ownsRow_base (owned_pap Ho5.out hm6) Hz1.out)
 clear hw6 h6 hm6 d1 hlb f1 H5 Hm5 Ho5
 go_wp2_with fail
 go_ret2
 exact ⟨⟨p.pb, some ⟨g5, 0, none⟩, c5, p.ub, v1, v2⟩, ab, cb, rfl, Ho6.out, rfl, H6.out, Hm6.out⟩
end Go.Proofs.YthlmgoagnfkhdaaGreat
namespace Go.Gim
theorem gonesT_step {t : List UInt8} {forth : Bool} {q : List (Int × Int)} {k : Nat} {x : Int × Int} (h : q[k]? = some x) : (q.map (goneS t forth)).take (k + 1) = (q.map (goneS t forth)).take k ++ [goneS t forth x] := by
 obtain ⟨hk, rfl⟩ := List.getElem?_eq_some_iff.1 h
 rw [List.take_succ_eq_append_getElem (by simpa using hk)]
 simp
theorem filterT_step {l : List (Int × Int)} {k : Nat} {x : Int × Int} (h : l[k]? = some x) : ((l.take (k + 1)).filter fullB).map edOf = ((l.take k).filter fullB).map edOf ++ (if fullB x then [edOf x] else []) := by
 obtain ⟨hk, rfl⟩ := List.getElem?_eq_some_iff.1 h
 rw [List.take_succ_eq_append_getElem hk, List.filter_append, List.map_append]
 congr 1
 cases hb : fullB l[k] with
 | true => rw [List.filter_cons_of_pos hb]; rfl
 | false => rw [List.filter_cons_of_neg (by simp [hb])]; rfl
end Go.Gim
namespace Go.Proofs.YthlmgoagnfkhdaaGreat
open Go.RowKit Go.Gim
theorem serased_any (S : Sh) (forth : Bool) (w : World) (h : SheetAt w S) (hq0 : 0 < S.q.length) (hq1 : S.q.length ≤ 19) (hin : InT S.s.size S.q) :
  Calls Tryz.prog 23 #[.pointer (some ⟨S.sb, 0, none⟩), .bool forth] w (edE.Out 59 (erasedL S.s.data.toList forth S.q) w) := by
 have hl1 : maxLen = 9223372036854775807 := rfl
 obtain ⟨b, off, e⟩ := h.rd.some hq0
 have hsl := h.rd
 rw [e] at hsl
 have Hsl := Lib.hid hsl
 have H := Lib.hid h
 have Hin := Lib.hid hin
 have Hgi := Lib.hid (gones_in (t := S.s.data.toList) (forth := forth) (q := S.q) hin)
 have HSt := Lib.hid (fun (a : Nat) (ha : a ≤ S.s.size) (way : Int) (h1 : 1 ≤ way) (h2 : way ≤ 10) w' (h' : Ext w w') => step_yes S.R S.s a way w' (h.rope.ext h') h.text ha h1 h2)
 have d2 := h.blk.cell 2
 simp only [List.getElem?_toArray, List.getElem?_cons_zero, List.getElem?_cons_succ] at d2
 rw [e] at d2
 have hlb := h.blk.lt
 have Hfin := Lib.hid (show erasedL S.s.data.toList forth S.q = ((unionL (S.q.map (goneS S.s.data.toList forth))).filter fullB).map edOf from rfl)
 have HUn := Lib.hid (fun g c w' (h' : Reads w' 2 (some ⟨g, 0, none⟩) S.q.length (prE.cells (S.q.map (goneS S.s.data.toList forth)))) => union_some g 0 c (S.q.map (goneS S.s.data.toList forth)) w' (by rw [List.length_map]; exact h') (by rw [List.length_map]; exact hq0) (by rw [List.length_map]; exact hq1) (fun x hx => (Hgi.out x hx).2.1))
 rw [List.length_map] at HUn
 have hUl := unionL_len (S.q.map (goneS S.s.data.toList forth))
 rw [List.length_map] at hUl
 unfold Enc.Out at HUn ⊢
 rw [Hfin.out]
 generalize unionL (S.q.map (goneS S.s.data.toList forth)) = U at *
 clear Hfin
 obtain ⟨N, hN⟩ : ∃ N, N = S.q.length := ⟨_, rfl⟩
 have HN := Lib.hid hN
 rw [← hN] at hq0 hq1 d2 HUn hUl
 have HUl := Lib.hid hUl
 clear h e hsl hN hin hUl
 go_enter Tryz.func23, Tryz.ntmps23
 go_wp2_with fail
 go_loopw [5, 22] (fun v i wr => ∃ k : Nat, k ≤ N ∧ i = .int .i64 k ∧ Hid (wr.ownsRow w.heap.size 49 2 v k (prE.cells ((S.q.map (goneS S.s.data.toList forth)).take k))) ∧ Ext w wr) (fun _ i _ => N - (intOf i).toNat)
 case atStart => exact ⟨0, by omega, rfl, Lib.hid (World.ownsRow_nil _ _ _ _), Mod.refl _ _⟩
 case round =>
  clear d2
  obtain ⟨k, hk, rfl, HW, hx⟩ := hrel
  have hlb2 : S.sb < wr.heap.size := hx.lt hlb
  by_cases hlt : k < N
  ·have hlt' : (k : Int) < (N : Int) := by omega
   have hk0 : (0 : Int) ≤ (k : Int) := by omega
   have hlk : k < S.q.length := by rw [← HN.out]; exact hlt
   obtain ⟨c0, c1⟩ := reads_pair (Hsl.out.mod hx (fun _ _ f => f)) (List.getElem?_eq_getElem hlk)
   have Hts := Lib.hid (gonesT_step (t := S.s.data.toList) (forth := forth) (List.getElem?_eq_getElem hlk))
   obtain ⟨n1, n2, n3, n4⟩ := Hin.out _ (List.getElem_mem hlk)
   have HSp := Lib.hid (fun w' => span_any S.q[k] w')
   generalize S.q[k] = x at *
   obtain ⟨va, vc, hva, _, _⟩ := ownsRow_shape HW.out
   subst hva
   have hbl := World.block_lt_of_cell? wr _ c0
   clear hlk
   obtain ⟨p, q⟩ := x
   simp only at c0 c1 HSp Hts n1 n2 n3 n4
   by_cases hpq : p = q
   ·have b1 : (p != q) = false := by simpa using hpq
    have hqn : ((q.toNat : Nat) : Int) = q := Int.toNat_of_nonneg n2
    cases forth with
    | true =>
     have HG := Lib.hid (show goneS S.s.data.toList true (p, q) = (q, ((rightN S.s.data.toList q.toNat : Nat) : Int)) by unfold goneS; rw [if_pos hpq]; rfl)
     have HS2 := Lib.hid (fun w' h' => HSt.out q.toNat (by omega) 2 (by omega) (by omega) w' h')
     rw [hqn, show stepN S.s.data.toList q.toNat 2 = rightN S.s.data.toList q.toNat from rfl] at HS2
     rw [HG.out] at Hts
     clear hqn hpq
     generalize rightN S.s.data.toList q.toNat = U at *
     go_upto_region 7 with fail
     obtain ⟨u, hu⟩ : ∃ u, u = wr.alloc (.cells #[.int .i64 p, .int .i64 q] 47) := ⟨_, rfl⟩
     have hxu : Ext wr u := by rw [hu]; exact (Mod.refl _ wr).alloc _
     have hbu : Blk u wr.heap.size 47 #[.int .i64 p, .int .i64 q] := by rw [hu]; exact Blk.new _ _ _
     rw [← hu]
     clear c0 c1 hbl hu
     have c0 : u.cell? ⟨wr.heap.size, 0, none⟩ = some (.int .i64 p) := hbu.cell 0
     have c1 : u.cell? ⟨wr.heap.size, 1, none⟩ = some (.int .i64 q) := hbu.cell 1
     have hlu := hbu.lt
     have d0 := (H.out.ext (hx.ext_trans hxu)).blk.cell 0
     simp only [List.getElem?_toArray, List.getElem?_cons_zero] at d0
     have hlb3 : S.sb < u.heap.size := (hx.ext_trans hxu).lt hlb
     go_upto_region 10 with fail
     refine wp_region_ext_lit (by kernel_rfl) (by kernel_rfl) ?_
     repeat (go_big_quiet_step (exact Calls.ext_of (HS2.out _ ((hx.ext_trans hxu).ext_trans (Mod.of_below (ext_below _ _))))))
     refine wpQuiet_nil ?_
     intro we hxe
     have hxv := hxu.ext_trans hxe
     clear c0 c1 hlu d0 hlb3
     have c1 : we.cell? ⟨wr.heap.size, 1, none⟩ = some (.int .i64 q) := (hbu.mod hxe (fun f => f)).cell 1
     have hlu := (hbu.mod hxe (fun f => f)).lt
     have Hom := Lib.hid (ownsRow_mod HW.out hxv (fun _ _ f => f))
     have hxw := hx.ext_trans hxv
     go_wp2_with (at_builtin; refine wpList_append_reads rfl _ _ 114 rfl w.heap.size 49 _ 2 16 Tryz.info49 Tryz.underlying114 rfl (by decide) _ k _ rfl (Hom.out.alloc _) _ 1 1 [.int .i64 q, .int .i64 ((U : Nat) : Int)] rfl ?hrd (prE.one (q, ((U : Nat) : Int))) (by omega) (by omega) ?hbs ?_)
     case hrd =>
      have := Reads.new we 49 #[.int .i64 q, .int .i64 ((U : Nat) : Int)] 2 1 rfl
      simpa using this
     case hbs => have := hxw.size; simp; omega
     intro v' w4 hown hm4 hbk
     have hx4 := (hxw.alloc (.cells #[.int .i64 q, .int .i64 ((U : Nat) : Int)] 49)).over hm4 (fun i hi => (Hom.out.lt i hi).1)
     have Hown := Lib.hid hown
     clear hm4 hbk hown
     go_wp2_with fail
     go_roundw
     case rel => exact ⟨k + 1, by omega, by go_num, Lib.hid (by rw [Hts.out, prE.cells_append]; exact Hown.out), hx4⟩
     case measure => simp [intOf]; omega
    | false =>
     have HG := Lib.hid (show goneS S.s.data.toList false (p, q) = (((leftN S.s.data.toList q.toNat : Nat) : Int), q) by unfold goneS; rw [if_pos hpq]; rfl)
     have HS2 := Lib.hid (fun w' h' => HSt.out q.toNat (by omega) 1 (by omega) (by omega) w' h')
     rw [hqn, show stepN S.s.data.toList q.toNat 1 = leftN S.s.data.toList q.toNat from rfl] at HS2
     rw [HG.out] at Hts
     clear hqn hpq
     generalize leftN S.s.data.toList q.toNat = U at *
     go_upto_region 7 with fail
     obtain ⟨u, hu⟩ : ∃ u, u = wr.alloc (.cells #[.int .i64 p, .int .i64 q] 47) := ⟨_, rfl⟩
     have hxu : Ext wr u := by rw [hu]; exact (Mod.refl _ wr).alloc _
     have hbu : Blk u wr.heap.size 47 #[.int .i64 p, .int .i64 q] := by rw [hu]; exact Blk.new _ _ _
     rw [← hu]
     clear c0 c1 hbl hu
     have c0 : u.cell? ⟨wr.heap.size, 0, none⟩ = some (.int .i64 p) := hbu.cell 0
     have c1 : u.cell? ⟨wr.heap.size, 1, none⟩ = some (.int .i64 q) := hbu.cell 1
     have hlu := hbu.lt
     have d0 := (H.out.ext (hx.ext_trans hxu)).blk.cell 0
     simp only [List.getElem?_toArray, List.getElem?_cons_zero] at d0
     have hlb3 : S.sb < u.heap.size := (hx.ext_trans hxu).lt hlb
     go_upto_region 12 with fail
     refine wp_region_ext_lit (by kernel_rfl) (by kernel_rfl) ?_
     repeat (go_big_quiet_step (exact Calls.ext_of (HS2.out _ ((hx.ext_trans hxu).ext_trans (Mod.of_below (ext_below _ _))))))
     refine wpQuiet_nil ?_
     intro we hxe
     have hxv := hxu.ext_trans hxe
     clear c0 c1 hlu d0 hlb3
     have c1 : we.cell? ⟨wr.heap.size, 1, none⟩ = some (.int .i64 q) := (hbu.mod hxe (fun f => f)).cell 1
     have hlu := (hbu.mod hxe (fun f => f)).lt
     have Hom := Lib.hid (ownsRow_mod HW.out hxv (fun _ _ f => f))
     have hxw := hx.ext_trans hxv
     go_wp2_with (at_builtin; refine wpList_append_reads rfl _ _ 114 rfl w.heap.size 49 _ 2 16 Tryz.info49 Tryz.underlying114 rfl (by decide) _ k _ rfl (Hom.out.alloc _) _ 1 1 [.int .i64 ((U : Nat) : Int), .int .i64 q] rfl ?hrd (prE.one (((U : Nat) : Int), q)) (by omega) (by omega) ?hbs ?_)
     case hrd =>
      have := Reads.new we 49 #[.int .i64 ((U : Nat) : Int), .int .i64 q] 2 1 rfl
      simpa using this
     case hbs => have := hxw.size; simp; omega
     intro v' w4 hown hm4 hbk
     have hx4 := (hxw.alloc (.cells #[.int .i64 ((U : Nat) : Int), .int .i64 q] 49)).over hm4 (fun i hi => (Hom.out.lt i hi).1)
     have Hown := Lib.hid hown
     clear hm4 hbk hown
     go_wp2_with fail
     go_roundw
     case rel => exact ⟨k + 1, by omega, by go_num, Lib.hid (by rw [Hts.out, prE.cells_append]; exact Hown.out), hx4⟩
     case measure => simp [intOf]; omega
   ·have b1 : (p != q) = true := by simpa using hpq
    have HG := Lib.hid (show goneS S.s.data.toList forth (p, q) = spanI (p, q) by unfold goneS; rw [if_neg hpq])
    rw [HG.out] at Hts
    generalize spanI (p, q) = y at *
    obtain ⟨y1, y2⟩ := y
    go_upto_region 7 with fail
    obtain ⟨u, hu⟩ : ∃ u, u = wr.alloc (.cells #[.int .i64 p, .int .i64 q] 47) := ⟨_, rfl⟩
    have hxu : Ext wr u := by rw [hu]; exact (Mod.refl _ wr).alloc _
    have hbu : Blk u wr.heap.size 47 #[.int .i64 p, .int .i64 q] := by rw [hu]; exact Blk.new _ _ _
    rw [← hu]
    clear c0 c1 hbl hu
    have c0 : u.cell? ⟨wr.heap.size, 0, none⟩ = some (.int .i64 p) := hbu.cell 0
    have c1 : u.cell? ⟨wr.heap.size, 1, none⟩ = some (.int .i64 q) := hbu.cell 1
    have hlu := hbu.lt
    go_wp2_with fail
    refine (HSp.out _).mono ?_
    rintro e we ⟨rfl, hxe⟩
    have hxv := hxu.ext_trans hxe
    have Hom := Lib.hid (ownsRow_mod HW.out hxv (fun _ _ f => f))
    have hxw := hx.ext_trans hxv
    go_wp2_with (at_builtin; refine wpList_append_reads rfl _ _ 114 rfl w.heap.size 49 _ 2 16 Tryz.info49 Tryz.underlying114 rfl (by decide) _ k _ rfl (Hom.out.alloc _) _ 1 1 [.int .i64 y1, .int .i64 y2] rfl ?hrd (prE.one (y1, y2)) (by omega) (by omega) ?hbs ?_)
    case hrd =>
     have := Reads.new we 49 #[.int .i64 y1, .int .i64 y2] 2 1 rfl
     simpa using this
    case hbs => have := hxw.size; simp; omega
    intro v' w4 hown hm4 hbk
    have hx4 := (hxw.alloc (.cells #[.int .i64 y1, .int .i64 y2] 49)).over hm4 (fun i hi => (Hom.out.lt i hi).1)
    have Hown := Lib.hid hown
    clear hm4 hbk hown
    go_wp2_with fail
    go_roundw
    case rel => exact ⟨k + 1, by omega, by go_num, Lib.hid (by rw [Hts.out, prE.cells_append]; exact Hown.out), hx4⟩
    case measure => simp [intOf]; omega
  ·have hlt' : ¬ (k : Int) < (N : Int) := by omega
   obtain rfl : k = N := by omega
   have hO := HW.out
   rw [List.take_of_length_le (by rw [List.length_map, ← HN.out]; exact Nat.le_refl _)] at hO
   obtain ⟨g, c, hv⟩ := Enc.owns_some (E := prE) hO hq0
   subst hv
   have HU2 := Lib.hid (HUn.out g c wr (Reads.own hO))
   clear hO HW HUn
   go_wp2_with fail
   refine HU2.out.mono ?_
   rintro e w2 ⟨v, rfl, hov, hx2⟩
   obtain ⟨a1, c1, rfl, hrd⟩ := Enc.owns_reads (E := prE) hov
   have Hrd := Lib.hid hrd
   have hy2 := hx.ext_trans hx2
   have hz2 := hy2.size
   obtain ⟨M, hM⟩ : ∃ M, M = U.length := ⟨_, rfl⟩
   have HM := Lib.hid hM
   have hM1 : M ≤ 19 := by have := HUl.out; omega
   rw [← hM] at Hrd ⊢
   clear hov hrd HU2 hx hx2 hM
   go_wp2_with fail
   go_loopw [12, 75] (fun v i wr => ∃ (j n : Nat), j ≤ M ∧ i = .int .i64 j ∧ n ≤ j ∧ Hid (wr.ownsRow w2.heap.size 59 3 v n (edE.cells (((U.take j).filter fullB).map edOf))) ∧ Ext w2 wr) (fun _ i _ => M - (intOf i).toNat)
   case atStart => exact ⟨0, 0, by omega, rfl, by omega, Lib.hid (World.ownsRow_nil _ _ _ _), Mod.refl _ _⟩
   case round =>
    obtain ⟨j, n, hj, rfl, hn, HW, hy⟩ := hrel
    by_cases hlt : j < M
    ·have hlt' : (j : Int) < (M : Int) := by omega
     have hk0 : (0 : Int) ≤ (j : Int) := by omega
     have hlj : j < U.length := by rw [← HM.out]; exact hlt
     obtain ⟨b2, off2, rfl⟩ := Hrd.out.some (by omega)
     obtain ⟨c0, c1'⟩ := rdSp_at (Hrd.out.mod hy (fun _ _ f => f)) (List.getElem?_eq_getElem hlj)
     have Hts := Lib.hid (filterT_step (List.getElem?_eq_getElem hlj))
     generalize U[j] = x at *
     obtain ⟨va, vc, hva, _, _⟩ := ownsRow_shape HW.out
     subst hva
     have hbl := World.block_lt_of_cell? wr _ c0
     clear hlj
     by_cases hf : x.1 < x.2
     ·have b1 : decide (x.1 < x.2) = true := decide_eq_true hf
      have Hst := Lib.hid (show ((U.take (j + 1)).filter fullB).map edOf = ((U.take j).filter fullB).map edOf ++ [edOf x] by rw [Hts.out, if_pos (show fullB x = true from b1)])
      have Hom := Lib.hid (ownsRow_mod HW.out (show Ext wr (wr.alloc (.cells #[.int .i64 x.1, .int .i64 x.2] 49)) from (Mod.refl _ wr).alloc _) (fun _ _ f => f))
      go_wp2_with (at_builtin; refine wpList_append_reads rfl _ _ 35 rfl w2.heap.size 59 _ 3 32 Tryz.info59 Tryz.underlying35 rfl (by decide) _ n _ rfl (Hom.out.alloc _) _ 1 1 [.int .i64 x.1, .int .i64 x.2, .string ⟨#[]⟩] rfl ?hrd (edE.one (edOf x)) (by omega) (by omega) ?hbs ?_)
      case hrd =>
       have := Reads.new (wr.alloc (.cells #[.int .i64 x.1, .int .i64 x.2] 49)) 59 #[.int .i64 x.1, .int .i64 x.2, .string ⟨#[]⟩] 3 1 rfl
       simpa using this
      case hbs => have := hy.size; simp at this ⊢; omega
      intro v' w4 hown hm4 hbk
      have hx4 := ((hy.alloc (.cells #[.int .i64 x.1, .int .i64 x.2] 49)).alloc (.cells #[.int .i64 x.1, .int .i64 x.2, .string ⟨#[]⟩] 59)).over hm4 (fun i hi => (Hom.out.lt i hi).1)
      have Hown := Lib.hid hown
      clear hm4 hbk hown c0 c1' hbl
      go_wp2_with fail
      go_roundw
      case rel => exact ⟨j + 1, n + 1, by omega, by go_num, by omega, Lib.hid (by rw [Hst.out, edE.cells_append]; exact Hown.out), hx4⟩
      case measure => simp [intOf]; omega
     ·have b1 : decide (x.1 < x.2) = false := decide_eq_false hf
      have Hst := Lib.hid (show ((U.take (j + 1)).filter fullB).map edOf = ((U.take j).filter fullB).map edOf by rw [Hts.out, if_neg (show ¬ fullB x = true by rw [show fullB x = false from b1]; exact Bool.false_ne_true), List.append_nil])
      have Hom := Lib.hid (ownsRow_mod HW.out (show Ext wr (wr.alloc (.cells #[.int .i64 x.1, .int .i64 x.2] 49)) from (Mod.refl _ wr).alloc _) (fun _ _ f => f))
      go_wp2_with fail
      go_roundw
      case rel => exact ⟨j + 1, n, by omega, by go_num, by omega, Lib.hid (by rw [Hst.out]; exact Hom.out), hy.alloc _⟩
      case measure => simp [intOf]; omega
    ·have hlt' : ¬ (j : Int) < (M : Int) := by omega
     obtain rfl : j = M := by omega
     have hO := HW.out
     rw [List.take_of_length_le (by rw [← HM.out]; exact Nat.le_refl _)] at hO
     obtain ⟨va, vc, hva, _, _⟩ := ownsRow_shape hO
     subst hva
     have HO := Lib.hid hO
     clear hO HW
     go_wp2_with fail
     go_ret
     have hO2 := ownsRow_base HO.out hz2
     obtain rfl : n = (U.filter fullB).length := by
      have := Enc.owns_len (E := edE) hO2
      rw [List.length_map] at this
      exact this.symm
     exact ⟨_, rfl, hO2, hy2.ext_trans hy⟩
end Go.Proofs.YthlmgoagnfkhdaaGreat

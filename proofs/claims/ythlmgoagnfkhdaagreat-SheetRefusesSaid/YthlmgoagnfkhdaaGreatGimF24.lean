/- What package lines computes of a rope's text: Offset, Indent. Conditions: a rope of at most 65536 bytes. -/
import Derived.Test.YthlmgoagnfkhdaaGreatGimF23
import Derived.Test.YthlmgoagnfkhdaaGreatGimF03
import Derived.Test.YthlmgoagnfkhdaaGreatGimF01
import Derived.Test.YthlmgoagnfkhdaaGreatRows
set_option maxHeartbeats 6400000
set_option maxRecDepth 1000000
set_option linter.unusedVariables false
set_option linter.unusedSimpArgs false
namespace Go.Gim
def offN (l : List UInt8) (line c : Nat) (way : Int) : Nat :=
 if 2 * ((lineE l line : Int) - (lineN l line : Int)) ≤ (c : Int) then lineE l line else min (lineE l line) (upto way l (byW way (l.take (lineN l line)) + c))
end Go.Gim
namespace Go.Proofs.YthlmgoagnfkhdaaGreat
open Go.RowKit Go.Gim
def OffsetPost (l : List UInt8) (line c : Nat) (way : Int) (w : World) (e : Ending) (w' : World) : Prop := e = .returned (.tuple #[.int .i64 (offN l line c way : Nat), .int .i64 0]) ∧ Ext w w'
theorem lineN_le2 {l : List UInt8} {j : Nat} (h : j ≤ brk l) : lineN l j ≤ l.length := by
 cases j with
 | zero => simp [lineN]
 | succ j => exact (lineN_pos l j (by omega)).2
theorem offset_yes (R : Rp) (line c : Nat) (way : Int) (w : World) (hR : RopeAt w R) (h : wayB way = true) (hn : hasB R.text line = true) : Calls Tryz.prog 152 #[.agg #[.pointer (some ⟨R.rb, 0, none⟩)], .int .i64 line, .int .i64 c, .int .i64 way] w (OffsetPost R.text line c way w) := by
 have hx0 : Ext w (w.alloc (.cells #[.pointer (some ⟨R.rb, 0, none⟩)] 42)) := (Mod.refl _ w).alloc _
 have h0 := hR.ext hx0
 have hc := fun v => counts_any way v
 rw [h] at hc
 have hw := way_out h
 have hsz := hR.size
 have hlen : R.text.length = R.t.size := rfl
 have hs := start_yes R line _ h0 hn
 have he := fun v (hv : Ext (w.alloc (.cells #[.pointer (some ⟨R.rb, 0, none⟩)] 42)) v) => end_yes R line v (h0.ext hv) hn
 have hle := lineE_le R.text line
 have hls := lineN_le2 (l := R.text) (j := line) (by have := (has_out hn).2; omega)
 have h1 := fun v (hv : Ext (w.alloc (.cells #[.pointer (some ⟨R.rb, 0, none⟩)] 42)) v) => ahead_any R (lineN R.text line : Nat) way v (h0.ext hv) (rises_of ⟨by omega, by omega, by omega⟩)
 rw [Int.toNat_natCast] at h1
 have hby := byW_le way (R.text.take (lineN R.text line))
 have hl2 := List.length_take_le (lineN R.text line) R.text
 have hul := upto_le way R.text (byW way (R.text.take (lineN R.text line)) + c)
 have hc0 : (0 : Int) ≤ (c : Int) := Int.natCast_nonneg _
 have c1 : byW way (R.text.take (lineN R.text line)) ≤ 200000 := by rw [List.length_take] at hby; omega
 unfold OffsetPost offN
 by_cases hbig : 2 * ((lineE R.text line : Int) - (lineN R.text line : Int)) ≤ (c : Int)
 ·rw [if_pos hbig]
  have Hc := Lib.hid hc
  have He := Lib.hid he
  generalize lineE R.text line = T at *
  generalize lineN R.text line = S at *
  have d1 : T ≤ 65536 := by omega
  have d2 : S ≤ 65536 := by omega
  clear hc he h1 hby hl2 hul h hn hle hls
  go_enter Tryz.func152, Tryz.ntmps152
  go_wp2_with fail
  refine (Hc.out _).mono ?_
  rintro e w1 ⟨rfl, rfl⟩
  go_wp2_with fail
  refine hs.mono ?_
  rintro e w1 ⟨rfl, hx⟩
  have hcell := box_cell hx
  go_wp2_with fail
  refine (He.out _ hx).mono ?_
  rintro e w2 ⟨rfl, hx2⟩
  go_wp2_with fail
  go_ret2
  exact ⟨rfl, (hx0.ext_trans hx).ext_trans hx2⟩
 ·rw [if_neg hbig]
  have h2 := fun v (hv : Ext (w.alloc (.cells #[.pointer (some ⟨R.rb, 0, none⟩)] 42)) v) => upto_yes R way (byW way (R.text.take (lineN R.text line)) + c) v (h0.ext hv) hw.1 (by omega) (IsInt.small (by omega) (by omega))
  rw [Int.natCast_add] at h2
  have d1 : lineE R.text line ≤ 65536 := by omega
  have d2 : lineN R.text line ≤ 65536 := by omega
  have d3 : (c : Int) ≤ 200000 := by omega
  have d4 : upto way R.text (byW way (R.text.take (lineN R.text line)) + c) ≤ 65536 := by omega
  have Hc := Lib.hid hc
  have He := Lib.hid he
  have H1 := Lib.hid h1
  have H2 := Lib.hid h2
  generalize upto way R.text (byW way (R.text.take (lineN R.text line)) + c) = U at *
  generalize byW way (R.text.take (lineN R.text line)) = B at *
  generalize lineE R.text line = T at *
  generalize lineN R.text line = S at *
  have e1 : IntKind.i64.wrap ((B : Int) + (c : Int)) = (B : Int) + (c : Int) := IntWalk.i64_in _ ⟨by omega, by omega⟩
  have E1 := Lib.hid e1
  obtain ⟨M, hM⟩ : ∃ M, M = min T U := ⟨_, rfl⟩
  rw [← hM]
  have hmin : (M = T ∧ (T : Int) ≤ (U : Int)) ∨ (M = U ∧ (U : Int) < (T : Int)) := by omega
  have Hmin := Lib.hid hmin
  clear hM hmin
  clear hc he h1 h2 hby hl2 hul h hn hle hls e1
  go_enter Tryz.func152, Tryz.ntmps152
  go_wp2_with fail
  refine (Hc.out _).mono ?_
  rintro e w1 ⟨rfl, rfl⟩
  go_wp2_with fail
  refine hs.mono ?_
  rintro e w1 ⟨rfl, hx⟩
  have hcell := box_cell hx
  go_wp2_with fail
  refine (He.out _ hx).mono ?_
  rintro e w2 ⟨rfl, hx2⟩
  have hx3 := hx.ext_trans hx2
  have hcell2 := box_cell hx3
  have hlt := World.block_lt_of_cell? w2 _ hcell2
  clear hcell hs
  rcases Hmin.out with ⟨hm, hmi⟩ | ⟨hm, hmi⟩
  ·have Hm := Lib.hid hm
   clear hm
   go_wp2_with fail
   refine wp_region_ext_lit (by kernel_rfl) (by kernel_rfl) ?_
   repeat (go_big_quiet_step (first | (with_reducible exact Calls.ext_of (H1.out _ (hx3.ext_trans (Mod.of_below (ext_below _ _))))) | (with_reducible exact Calls.ext_of (H2.out _ (hx3.ext_trans (Mod.of_below (ext_below _ _)))))))
   refine wpQuiet_nil ?_
   intro we hxe
   go_wp2_with fail
   go_ret2
   exact ⟨congrArg (fun z : Nat => Ending.returned (.tuple #[.int .i64 z, .int .i64 0])) Hm.out.symm, (hx0.ext_trans hx3).ext_trans hxe⟩
  ·have Hm := Lib.hid hm
   clear hm
   go_wp2_with fail
   refine wp_region_ext_lit (by kernel_rfl) (by kernel_rfl) ?_
   repeat (go_big_quiet_step (first | (with_reducible exact Calls.ext_of (H1.out _ (hx3.ext_trans (Mod.of_below (ext_below _ _))))) | (with_reducible exact Calls.ext_of (H2.out _ (hx3.ext_trans (Mod.of_below (ext_below _ _)))))))
   refine wpQuiet_nil ?_
   intro we hxe
   go_wp2_with fail
   go_ret2
   exact ⟨congrArg (fun z : Nat => Ending.returned (.tuple #[.int .i64 z, .int .i64 0])) Hm.out.symm, (hx0.ext_trans hx3).ext_trans hxe⟩
def RowI (B : Nat) (l : List Nat) (v : Value) (w : World) : Prop := B ≤ w.heap.size ∧ w.ownsRow B 3 1 v l.length (l.map fun n : Nat => Value.int .i64 n)
theorem RowI.lit (w : World) (n : Nat) : RowI w.heap.size [n] (.slice (some ⟨w.heap.size, 0, none⟩) 1 1) (w.alloc (.cells #[.int .i64 n] 3)) :=
 ⟨by simp, World.ownsRow_lit w #[.int .i64 n] 1 (Nat.le_refl _) (by unfold maxLen; omega) rfl⟩
theorem size_text {R : Rp} {s : ByteArray} (ht : R.text = s.data.toList) : R.t.size = s.size := by
 rw [T.size, show R.t.text = s.data.toList from ht]; rfl
end Go.Proofs.YthlmgoagnfkhdaaGreat
namespace Go.Gim
theorem byW_seg (way : Int) (l : List UInt8) (a f : Nat) (h : a ≤ f) : byW way (l.take f) = byW way (l.take a) + byW way ((l.take f).drop a) := by
 have e := (List.take_append_drop a (l.take f)).symm
 rw [List.take_take, Nat.min_eq_left h] at e
 exact (congrArg (byW way) e).trans (byW_append way _ _)
end Go.Gim
namespace Go.Proofs.YthlmgoagnfkhdaaGreat
open Go.RowKit Go.Gim
end Go.Proofs.YthlmgoagnfkhdaaGreat
namespace Go.Gim
def wordB (c : UInt8) : Bool := decide (97 ≤ c.toNat ∧ c.toNat ≤ 122 ∨ 65 ≤ c.toNat ∧ c.toNat ≤ 90 ∨ 48 ≤ c.toNat ∧ c.toNat ≤ 57 ∨ c.toNat = 95 ∨ 128 ≤ c.toNat)
def noWordB (c : UInt8) : Bool := !wordB c
def skip (p : UInt8 → Bool) (l : List UInt8) : Nat := (l.takeWhile p).length
def fwdN (p : UInt8 → Bool) (l : List UInt8) (a : Nat) : Nat := a + skip p (l.drop a)
def backN (p : UInt8 → Bool) (l : List UInt8) : Nat → Nat
 | 0 => 0
 | k + 1 => if p (l.getD k 0) then backN p l k else k + 1
def downN (p : UInt8 → Bool) (l : List UInt8) : Nat → Nat
 | 0 => 0
 | k + 1 => if p (l.getD (k + 1) 0) then downN p l k else k + 1
def leftN (l : List UInt8) (a : Nat) : Nat := if a = 0 then 0 else downN inB l (a - 1)
def rightN (l : List UInt8) (a : Nat) : Nat := if a < l.length then fwdN inB l (a + 1) else a
def wordLN (l : List UInt8) (a : Nat) : Nat := backN wordB l (backN noWordB l a)
def wordRN (l : List UInt8) (a : Nat) : Nat := fwdN wordB l (fwdN noWordB l a)
def lnN (l : List UInt8) (a : Nat) : Nat := brk (l.take a)
def colN (l : List UInt8) (a : Nat) : Nat := byW 1 (l.take a) - byW 1 (l.take (lineN l (lnN l a)))
def upN (l : List UInt8) (a : Nat) : Nat := if lnN l a = 0 then 0 else offN l (lnN l a - 1) (colN l a) 1
def belowN (l : List UInt8) (a : Nat) : Nat := if lnN l a + 1 ≤ brk l then offN l (lnN l a + 1) (colN l a) 1 else l.length
def stepN (l : List UInt8) (a : Nat) (way : Int) : Nat :=
 if way = 1 then leftN l a else if way = 2 then rightN l a else if way = 3 then lineN l (lnN l a) else if way = 4 then lineE l (lnN l a)
 else if way = 5 then upN l a else if way = 6 then belowN l a else if way = 7 then 0 else if way = 8 then l.length else if way = 9 then wordLN l a else wordRN l a
theorem skip_le (p : UInt8 → Bool) (l : List UInt8) : skip p l ≤ l.length := (List.takeWhile_prefix _).length_le
theorem fwdN_in (p : UInt8 → Bool) (l : List UInt8) (a : Nat) (h : a < l.length) (hp : p l[a] = true) : fwdN p l a = fwdN p l (a + 1) := by
 unfold fwdN skip
 rw [List.drop_eq_getElem_cons h, List.takeWhile_cons, if_pos hp, List.length_cons]; omega
theorem fwdN_stop (p : UInt8 → Bool) (l : List UInt8) (a : Nat) (h : a < l.length) (hp : p l[a] = false) : fwdN p l a = a := by
 unfold fwdN skip
 rw [List.drop_eq_getElem_cons h, List.takeWhile_cons, if_neg (by simp [hp])]; simp
theorem fwdN_over (p : UInt8 → Bool) (l : List UInt8) (a : Nat) (h : l.length ≤ a) : fwdN p l a = a := by
 unfold fwdN skip
 rw [List.drop_of_length_le h]; simp
theorem fwdN_ge (p : UInt8 → Bool) (l : List UInt8) (a : Nat) : a ≤ fwdN p l a := by unfold fwdN; omega
theorem fwdN_le (p : UInt8 → Bool) (l : List UInt8) (a : Nat) (h : a ≤ l.length) : fwdN p l a ≤ l.length := by
 have := skip_le p (l.drop a)
 rw [List.length_drop] at this
 unfold fwdN; omega
theorem backN_pos (p : UInt8 → Bool) (l : List UInt8) (k : Nat) (h : k < l.length) : backN p l (k + 1) = if p l[k] then backN p l k else k + 1 := by
 simp [backN, List.getD, h]
theorem backN_le (p : UInt8 → Bool) (l : List UInt8) : ∀ a, backN p l a ≤ a
 | 0 => Nat.le_refl _
 | k + 1 => by
  unfold backN
  split
  ·have := backN_le p l k; omega
  ·exact Nat.le_refl _
theorem downN_pos (p : UInt8 → Bool) (l : List UInt8) (j : Nat) (h0 : 0 < j) (h : j < l.length) : downN p l j = if p l[j] then downN p l (j - 1) else j := by
 obtain ⟨k, rfl⟩ : ∃ k, j = k + 1 := ⟨j - 1, by omega⟩
 simp [downN, List.getD, h]
theorem downN_le (p : UInt8 → Bool) (l : List UInt8) : ∀ a, downN p l a ≤ a
 | 0 => Nat.le_refl _
 | k + 1 => by
  unfold downN
  split
  ·have := downN_le p l k; omega
  ·exact Nat.le_refl _
theorem leftN_le (l : List UInt8) (a : Nat) : leftN l a ≤ a - 1 := by
 unfold leftN
 split
 ·omega
 ·have := downN_le inB l (a - 1); omega
theorem rightN_le (l : List UInt8) (a : Nat) (h : a ≤ l.length) : rightN l a ≤ l.length := by
 unfold rightN
 split
 ·exact fwdN_le _ _ _ (by omega)
 ·exact h
theorem offN_le (l : List UInt8) (line col : Nat) (way : Int) : offN l line col way ≤ l.length := by
 have h := lineE_le l line
 unfold offN
 split
 ·exact h
 ·exact Nat.le_trans (Nat.min_le_left _ _) h
theorem lnN_le (l : List UInt8) (a : Nat) : lnN l a ≤ brk l := by
 have e := brk_append (l.take a) (l.drop a)
 rw [List.take_append_drop] at e
 unfold lnN; omega
theorem stepN_le (l : List UInt8) (a : Nat) (way : Int) (h : a ≤ l.length) : stepN l a way ≤ l.length := by
 have h1 := leftN_le l a
 have h2 := rightN_le l a h
 have h3 := lineN_le l a
 have h4 := lineE_le l (lnN l a)
 have h5 := backN_le noWordB l a
 have h6 := backN_le wordB l (backN noWordB l a)
 have h7 := fwdN_le wordB l _ (fwdN_le noWordB l a h)
 have h8 : upN l a ≤ l.length := by
  unfold upN
  split
  ·omega
  ·exact offN_le ..
 have h9 : belowN l a ≤ l.length := by
  unfold belowN
  split
  ·exact offN_le ..
  ·exact Nat.le_refl _
 have h3' : lineN l (lnN l a) ≤ a := h3
 unfold stepN wordLN wordRN
 repeat' split
 all_goals omega
end Go.Gim
namespace Go.Proofs.YthlmgoagnfkhdaaGreat
open Go.RowKit Go.Gim
theorem minside_any (c : UInt8) (w : World) : Calls Tryz.prog 147 #[.int .u8 c.toNat] w fun e w' => e = .returned (.bool (inB c)) ∧ w' = w := by
 by_cases h1 : (128 : Int) ≤ (c.toNat : Int)
 ·by_cases h2 : (c.toNat : Int) ≤ 191
  ·have h : inB c = true := by simp [inB]; omega
   rw [h]; clear h
   go_enter Tryz.func147, Tryz.ntmps147
   go_wp2
   go_ret
   exact ⟨rfl, rfl⟩
  ·have h : inB c = false := by simp [inB]; omega
   rw [h]; clear h
   go_enter Tryz.func147, Tryz.ntmps147
   go_wp2
   go_ret
   exact ⟨rfl, rfl⟩
 ·have h : inB c = false := by simp [inB]; omega
  rw [h]; clear h
  go_enter Tryz.func147, Tryz.ntmps147
  go_wp2
  go_ret
  exact ⟨rfl, rfl⟩
theorem right_any (s : ByteArray) (a : Nat) (w : World) (ha : a ≤ s.size) (hs : s.size ≤ 65536) :
  Calls Tryz.prog 114 #[.string s, .int .i64 a] w fun e w' => e = .returned (.int .i64 (rightN s.data.toList a : Nat)) ∧ w' = w := by
 obtain ⟨U, hU⟩ : ∃ U, U = rightN s.data.toList a := ⟨_, rfl⟩
 rw [← hU]
 have hst : ∃ k : Nat, k ≤ s.size ∧ (a < s.size → k = a + 1) ∧ (¬ a < s.size → k = a) ∧ fwdN inB s.data.toList k = U := by
  unfold rightN at hU
  rw [toList_length] at hU
  by_cases h : a < s.size
  ·rw [if_pos h] at hU
   exact ⟨a + 1, by omega, fun _ => rfl, fun h2 => absurd h h2, hU.symm⟩
  ·rw [if_neg h] at hU
   exact ⟨a, by omega, fun h2 => absurd h2 h, fun _ => rfl, by rw [fwdN_over _ _ _ (by rw [toList_length]; omega)]; exact hU.symm⟩
 obtain ⟨k0, hk0, e1, e2, HU⟩ := hst
 have HU := Lib.hid HU
 clear hU
 have key : Calls Tryz.prog 114 #[.string s, .int .i64 a] w fun e w' => e = .returned (.int .i64 U) ∧ w' = w := by
  by_cases hlt : a < s.size
  ·have hlt' : (a : Int) < (s.size : Int) := by omega
   obtain rfl := e1 hlt
   clear e1 e2
   go_enter Tryz.func114, Tryz.ntmps114
   go_wp2_with fail
   go_loop [1] (fun i => ∃ k : Nat, k ≤ s.size ∧ i = .int .i64 k ∧ Hid (fwdN inB s.data.toList k = U)) (fun i => s.size - (intOf i).toNat)
   case atStart => exact ⟨a + 1, hk0, by go_num, HU⟩
   case round =>
    obtain ⟨k, hk, rfl, HK⟩ := hrel
    by_cases hkt : k < s.size
    ·have hk1 : (k : Int) < (s.size : Int) := by omega
     have hk2 : (0 : Int) ≤ (k : Int) := by omega
     by_cases hin : inB s[k] = true
     ·have hd := fwdN_in inB s.data.toList k (by rw [toList_length]; exact hkt) (by rw [toList_get s k hkt]; exact hin)
      have Hd := Lib.hid hd
      have Hin := Lib.hid hin
      clear hd hin
      go_wp2_with fail
      refine (minside_any s[k] _).mono ?_
      rintro e w' ⟨rfl, rfl⟩
      rw [Hin.out]
      go_wp2_with fail
      go_round
      case rel => exact ⟨k + 1, by omega, by go_num, Lib.hid (Hd.out.symm.trans HK.out)⟩
      case measure => simp [intOf]; omega
     ·have hin2 : inB s[k] = false := by simpa using hin
      have hd := fwdN_stop inB s.data.toList k (by rw [toList_length]; exact hkt) (by rw [toList_get s k hkt]; exact hin2)
      have Hd := Lib.hid (hd.symm.trans HK.out)
      have Hin := Lib.hid hin2
      clear hd hin hin2
      go_wp2_with fail
      refine (minside_any s[k] _).mono ?_
      rintro e w' ⟨rfl, rfl⟩
      rw [Hin.out]
      go_wp2_with fail
      go_ret
      exact ⟨ret_int (by rw [← Hd.out]), rfl⟩
    ·have hk1 : ¬ (k : Int) < (s.size : Int) := by omega
     have hd := fwdN_over inB s.data.toList k (by rw [toList_length]; omega)
     have Hd := Lib.hid (hd.symm.trans HK.out)
     clear hd
     go_wp2_with fail
     go_ret
     exact ⟨ret_int (by rw [← Hd.out]), rfl⟩
  ·have hlt' : ¬ (a : Int) < (s.size : Int) := by omega
   obtain rfl := e2 hlt
   clear e1 e2
   go_enter Tryz.func114, Tryz.ntmps114
   go_wp2_with fail
   go_loop [1] (fun i => ∃ k : Nat, k ≤ s.size ∧ i = .int .i64 k ∧ Hid (fwdN inB s.data.toList k = U)) (fun i => s.size - (intOf i).toNat)
   case atStart => exact ⟨_, hk0, rfl, HU⟩
   case round =>
    obtain ⟨k, hk, rfl, HK⟩ := hrel
    by_cases hkt : k < s.size
    ·have hk1 : (k : Int) < (s.size : Int) := by omega
     have hk2 : (0 : Int) ≤ (k : Int) := by omega
     by_cases hin : inB s[k] = true
     ·have hd := fwdN_in inB s.data.toList k (by rw [toList_length]; exact hkt) (by rw [toList_get s k hkt]; exact hin)
      have Hd := Lib.hid hd
      have Hin := Lib.hid hin
      clear hd hin
      go_wp2_with fail
      refine (minside_any s[k] _).mono ?_
      rintro e w' ⟨rfl, rfl⟩
      rw [Hin.out]
      go_wp2_with fail
      go_round
      case rel => exact ⟨k + 1, by omega, by go_num, Lib.hid (Hd.out.symm.trans HK.out)⟩
      case measure => simp [intOf]; omega
     ·have hin2 : inB s[k] = false := by simpa using hin
      have hd := fwdN_stop inB s.data.toList k (by rw [toList_length]; exact hkt) (by rw [toList_get s k hkt]; exact hin2)
      have Hd := Lib.hid (hd.symm.trans HK.out)
      have Hin := Lib.hid hin2
      clear hd hin hin2
      go_wp2_with fail
      refine (minside_any s[k] _).mono ?_
      rintro e w' ⟨rfl, rfl⟩
      rw [Hin.out]
      go_wp2_with fail
      go_ret
      exact ⟨ret_int (by rw [← Hd.out]), rfl⟩
    ·have hk1 : ¬ (k : Int) < (s.size : Int) := by omega
     have hd := fwdN_over inB s.data.toList k (by rw [toList_length]; omega)
     have Hd := Lib.hid (hd.symm.trans HK.out)
     clear hd
     go_wp2_with fail
     go_ret
     exact ⟨ret_int (by rw [← Hd.out]), rfl⟩
 exact key
theorem left_any (s : ByteArray) (a : Nat) (w : World) (ha : a ≤ s.size) (hs : s.size ≤ 65536) :
  Calls Tryz.prog 113 #[.string s, .int .i64 a] w fun e w' => e = .returned (.int .i64 (leftN s.data.toList a : Nat)) ∧ w' = w := by
 obtain ⟨U, hU⟩ : ∃ U, U = leftN s.data.toList a := ⟨_, rfl⟩
 rw [← hU]
 by_cases h0 : a = 0
 ·subst h0
  have hU0 : U = 0 := hU
  subst hU0
  clear hU
  go_enter Tryz.func113, Tryz.ntmps113
  go_wp2_with fail
  refine wp_loop_rounds 1 ?_
  rw [rounds_succ]
  go_wp2_with fail
  go_ret
  exact ⟨rfl, rfl⟩
 ·have h0' : 0 < a := by omega
  have h0'' : (0 : Int) < (a : Int) := by omega
  have hU2 : downN inB s.data.toList (a - 1) = U := by rw [hU, leftN, if_neg h0]
  have HU := Lib.hid hU2
  clear hU hU2 h0
  go_enter Tryz.func113, Tryz.ntmps113
  go_wp2_with fail
  go_loop [1] (fun i => ∃ j : Nat, j < s.size ∧ i = .int .i64 j ∧ Hid (downN inB s.data.toList j = U)) (fun i => (intOf i).toNat)
  case atStart => exact ⟨a - 1, by omega, by rw [show ((a - 1 : Nat) : Int) = (a : Int) - 1 from by omega], HU⟩
  case round =>
   obtain ⟨j, hj, rfl, HJ⟩ := hrel
   by_cases hj0 : 0 < j
   ·have hj0' : (0 : Int) < (j : Int) := by omega
    have hj1 : (0 : Int) ≤ (j : Int) := by omega
    have hj2 : (j : Int) < (s.size : Int) := by omega
    have hd := downN_pos inB s.data.toList j hj0 (by rw [toList_length]; exact hj)
    rw [toList_get s j hj] at hd
    by_cases hin : inB s[j] = true
    ·rw [if_pos hin] at hd
     have Hd := Lib.hid hd
     have Hin := Lib.hid hin
     clear hd hin
     go_wp2_with fail
     refine (minside_any s[j] _).mono ?_
     rintro e w' ⟨rfl, rfl⟩
     rw [Hin.out]
     go_wp2_with fail
     go_round
     case rel => exact ⟨j - 1, by omega, by rw [show ((j - 1 : Nat) : Int) = (j : Int) - 1 from by omega], Lib.hid (Hd.out.symm.trans HJ.out)⟩
     case measure => simp [intOf]; omega
    ·rw [if_neg hin] at hd
     have Hd := Lib.hid (hd.symm.trans HJ.out)
     have Hin := Lib.hid (show inB s[j] = false from by simpa using hin)
     clear hd hin
     go_wp2_with fail
     refine (minside_any s[j] _).mono ?_
     rintro e w' ⟨rfl, rfl⟩
     rw [Hin.out]
     go_wp2_with fail
     go_ret
     exact ⟨ret_int (by rw [← Hd.out]), rfl⟩
   ·have hj0' : ¬ (0 : Int) < (j : Int) := by omega
    obtain rfl : j = 0 := by omega
    have HJ2 := Lib.hid (show (0 : Nat) = U from HJ.out)
    go_wp2_with fail
    go_ret
    exact ⟨ret_int (by rw [← HJ2.out]; rfl), rfl⟩
theorem wordByte_any (c : UInt8) (w : World) : Calls Tryz.prog 153 #[.int .u8 c.toNat] w fun e w' => e = .returned (.bool (wordB c)) ∧ w' = w := by
 have hW : ∀ b, wordB c = b → Calls Tryz.prog 153 #[.int .u8 c.toNat] w (fun e w' => e = .returned (.bool b) ∧ w' = w) → Calls Tryz.prog 153 #[.int .u8 c.toNat] w fun e w' => e = .returned (.bool (wordB c)) ∧ w' = w := fun b hb h => by rw [hb]; exact h
 have e97 : (decide ((97 : Int) ≤ (c.toNat : Int)) = true ∧ decide ((c.toNat : Int) ≤ 122) = true) ∨ (decide ((97 : Int) ≤ (c.toNat : Int)) = true ∧ decide ((c.toNat : Int) ≤ 122) = false) ∨ decide ((97 : Int) ≤ (c.toNat : Int)) = false := by
  simp only [decide_eq_true_eq, decide_eq_false_iff_not]; omega
 have hall : wordB c = (decide ((97 : Int) ≤ (c.toNat : Int)) && decide ((c.toNat : Int) ≤ 122) || decide ((65 : Int) ≤ (c.toNat : Int)) && decide ((c.toNat : Int) ≤ 90) || decide ((48 : Int) ≤ (c.toNat : Int)) && decide ((c.toNat : Int) ≤ 57) || ((c.toNat : Int) == 95) || decide ((128 : Int) ≤ (c.toNat : Int))) := by
  unfold wordB
  rw [Bool.eq_iff_iff]
  simp only [Bool.or_eq_true, Bool.and_eq_true, decide_eq_true_eq, beq_iff_eq]
  omega
 rw [hall]
 clear hall hW e97
 go_enter Tryz.func153, Tryz.ntmps153
 by_cases h1 : (97 : Int) ≤ (c.toNat : Int)
 ·by_cases h2 : (c.toNat : Int) ≤ 122
  ·go_wp2_with fail
   go_ret
   exact ⟨ret_bool (by simp [h1, h2]), rfl⟩
  ·by_cases h3 : (65 : Int) ≤ (c.toNat : Int)
   ·by_cases h4 : (c.toNat : Int) ≤ 90
    ·go_wp2_with fail
     go_ret
     exact ⟨ret_bool (by simp <;> omega), rfl⟩
    ·by_cases h5 : (48 : Int) ≤ (c.toNat : Int)
     ·by_cases h6 : (c.toNat : Int) ≤ 57
      ·go_wp2_with fail
       go_ret
       exact ⟨ret_bool (by simp <;> omega), rfl⟩
      ·by_cases h7 : ((c.toNat : Int) == 95) = true
       ·go_wp2_with fail
        go_ret
        exact ⟨ret_bool (by simp at h7 ⊢ <;> omega), rfl⟩
       ·have h7' : ((c.toNat : Int) == 95) = false := by simpa using h7
        by_cases h8 : (128 : Int) ≤ (c.toNat : Int)
        ·go_wp2_with fail
         go_ret
         exact ⟨ret_bool (by simp <;> omega), rfl⟩
        ·go_wp2_with fail
         go_ret
         exact ⟨ret_bool (by simp at h7' ⊢ <;> omega), rfl⟩
     ·by_cases h7 : ((c.toNat : Int) == 95) = true
      ·go_wp2_with fail
       go_ret
       exact ⟨ret_bool (by simp at h7 ⊢ <;> omega), rfl⟩
      ·have h7' : ((c.toNat : Int) == 95) = false := by simpa using h7
       by_cases h8 : (128 : Int) ≤ (c.toNat : Int)
       ·go_wp2_with fail
        go_ret
        exact ⟨ret_bool (by simp <;> omega), rfl⟩
       ·go_wp2_with fail
        go_ret
        exact ⟨ret_bool (by simp at h7' ⊢ <;> omega), rfl⟩
   ·by_cases h5 : (48 : Int) ≤ (c.toNat : Int)
    ·by_cases h6 : (c.toNat : Int) ≤ 57
     ·go_wp2_with fail
      go_ret
      exact ⟨ret_bool (by simp <;> omega), rfl⟩
     ·by_cases h7 : ((c.toNat : Int) == 95) = true
      ·go_wp2_with fail
       go_ret
       exact ⟨ret_bool (by simp at h7 ⊢ <;> omega), rfl⟩
      ·have h7' : ((c.toNat : Int) == 95) = false := by simpa using h7
       by_cases h8 : (128 : Int) ≤ (c.toNat : Int)
       ·go_wp2_with fail
        go_ret
        exact ⟨ret_bool (by simp <;> omega), rfl⟩
       ·go_wp2_with fail
        go_ret
        exact ⟨ret_bool (by simp at h7' ⊢ <;> omega), rfl⟩
    ·by_cases h7 : ((c.toNat : Int) == 95) = true
     ·go_wp2_with fail
      go_ret
      exact ⟨ret_bool (by simp at h7 ⊢ <;> omega), rfl⟩
     ·have h7' : ((c.toNat : Int) == 95) = false := by simpa using h7
      by_cases h8 : (128 : Int) ≤ (c.toNat : Int)
      ·go_wp2_with fail
       go_ret
       exact ⟨ret_bool (by simp <;> omega), rfl⟩
      ·go_wp2_with fail
       go_ret
       exact ⟨ret_bool (by simp at h7' ⊢ <;> omega), rfl⟩
 ·by_cases h3 : (65 : Int) ≤ (c.toNat : Int)
  ·by_cases h4 : (c.toNat : Int) ≤ 90
   ·go_wp2_with fail
    go_ret
    exact ⟨ret_bool (by simp <;> omega), rfl⟩
   ·by_cases h5 : (48 : Int) ≤ (c.toNat : Int)
    ·by_cases h6 : (c.toNat : Int) ≤ 57
     ·go_wp2_with fail
      go_ret
      exact ⟨ret_bool (by simp <;> omega), rfl⟩
     ·by_cases h7 : ((c.toNat : Int) == 95) = true
      ·go_wp2_with fail
       go_ret
       exact ⟨ret_bool (by simp at h7 ⊢ <;> omega), rfl⟩
      ·have h7' : ((c.toNat : Int) == 95) = false := by simpa using h7
       by_cases h8 : (128 : Int) ≤ (c.toNat : Int)
       ·go_wp2_with fail
        go_ret
        exact ⟨ret_bool (by simp <;> omega), rfl⟩
       ·go_wp2_with fail
        go_ret
        exact ⟨ret_bool (by simp at h7' ⊢ <;> omega), rfl⟩
    ·by_cases h7 : ((c.toNat : Int) == 95) = true
     ·go_wp2_with fail
      go_ret
      exact ⟨ret_bool (by simp at h7 ⊢ <;> omega), rfl⟩
     ·have h7' : ((c.toNat : Int) == 95) = false := by simpa using h7
      by_cases h8 : (128 : Int) ≤ (c.toNat : Int)
      ·go_wp2_with fail
       go_ret
       exact ⟨ret_bool (by simp <;> omega), rfl⟩
      ·go_wp2_with fail
       go_ret
       exact ⟨ret_bool (by simp at h7' ⊢ <;> omega), rfl⟩
  ·by_cases h5 : (48 : Int) ≤ (c.toNat : Int)
   ·by_cases h6 : (c.toNat : Int) ≤ 57
    ·go_wp2_with fail
     go_ret
     exact ⟨ret_bool (by simp <;> omega), rfl⟩
    ·by_cases h7 : ((c.toNat : Int) == 95) = true
     ·go_wp2_with fail
      go_ret
      exact ⟨ret_bool (by simp at h7 ⊢ <;> omega), rfl⟩
     ·have h7' : ((c.toNat : Int) == 95) = false := by simpa using h7
      by_cases h8 : (128 : Int) ≤ (c.toNat : Int)
      ·go_wp2_with fail
       go_ret
       exact ⟨ret_bool (by simp <;> omega), rfl⟩
      ·go_wp2_with fail
       go_ret
       exact ⟨ret_bool (by simp at h7' ⊢ <;> omega), rfl⟩
   ·by_cases h7 : ((c.toNat : Int) == 95) = true
    ·go_wp2_with fail
     go_ret
     exact ⟨ret_bool (by simp at h7 ⊢ <;> omega), rfl⟩
    ·have h7' : ((c.toNat : Int) == 95) = false := by simpa using h7
     by_cases h8 : (128 : Int) ≤ (c.toNat : Int)
     ·go_wp2_with fail
      go_ret
      exact ⟨ret_bool (by simp <;> omega), rfl⟩
     ·go_wp2_with fail
      go_ret
      exact ⟨ret_bool (by simp at h7' ⊢ <;> omega), rfl⟩
end Go.Proofs.YthlmgoagnfkhdaaGreat

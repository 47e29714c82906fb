/- What vars.Place gives, plainly; a row of pairs that grows. Conditions: none. -/
import Derived.Test.YtmecdhbiinpepaaDoorGimPlace
import Derived.Test.YtmecdhbiinpepaaDoorGimPackX
import Derived.Test.YtmecdhbiinpepaaDoorGimLaw23
import Derived.Test.YtmecdhbiinpepaaDoorGimPackV
namespace Go.Gim
def pathN : ByteArray := ⟨#[84, 77, 95, 70, 73, 76, 69, 80, 65, 84, 72]⟩
def selN : ByteArray := ⟨#[84, 77, 95, 83, 69, 76, 69, 67, 84, 69, 68, 95, 84, 69, 88, 84]⟩
def curN : ByteArray := ⟨#[84, 77, 95, 67, 85, 82, 82, 69, 78, 84, 95, 76, 73, 78, 69]⟩
def wrdN : ByteArray := ⟨#[84, 77, 95, 67, 85, 82, 82, 69, 78, 84, 95, 87, 79, 82, 68]⟩
def idxN : ByteArray := ⟨#[84, 77, 95, 76, 73, 78, 69, 95, 73, 78, 68, 69, 88]⟩
def numN : ByteArray := ⟨#[84, 77, 95, 76, 73, 78, 69, 95, 78, 85, 77, 66, 69, 82]⟩
def selP (t : ByteArray) : List Pv := if t = ⟨#[]⟩ then [] else [(selN, t)]
def wordP (t : ByteArray) : List Pv := if t = ⟨#[]⟩ then [] else [(wrdN, t)]
def pathP : Option ByteArray → List Pv
  | none => []
  | some p => fileL p
theorem selP_len (t : ByteArray) : (selP t).length ≤ 1 := by unfold selP; split <;> simp
theorem wordP_len (t : ByteArray) : (wordP t).length ≤ 1 := by unfold wordP; split <;> simp
theorem pathP_len (t : Option ByteArray) : (pathP t).length ≤ 3 := by cases t <;> simp [pathP, fileL]
theorem empty_yes {t : ByteArray} (h : t = ⟨#[]⟩) : t.toList.isEmpty = true := by rw [h, ByteArray.toList_eq]; rfl
theorem empty_no {t : ByteArray} (h : t ≠ ⟨#[]⟩) : t.toList.isEmpty = false := by
  rw [ByteArray.toList_eq]
  have : t.data.toList ≠ [] := fun e => h (by rcases t with ⟨⟨a⟩⟩; cases e; rfl)
  simpa using this
end Go.Gim
namespace Go.Proofs.YtmecdhbiinpepaaDoor
open Go.RowKit Go.Gim
/-- A row of pairs, new since a world. -/
def PRow (u : World) (l : List Pv) (v : Value) (w : World) : Prop := w.ownsRow u.heap.size 33 2 v l.length (spCells l) ∧ Ext u w
theorem PRow.nil (u : World) : PRow u [] (.slice none 0 0) u := ⟨World.ownsRow_nil _ _ _ _, Mod.refl _ u⟩
theorem PRow.ext {u w w' : World} {l : List Pv} {v : Value} (h : PRow u l v w) (hx : Ext w w') : PRow u l v w' := ⟨ownsRow_mod h.1 hx (fun _ _ f => f), h.2.ext_trans hx⟩
theorem wpList_row {w : World} {ops : Array Oper} {rest : List Oper} {o : Oper} {a : Act} {Q : Exit → Act → World → Prop} (hgd : o.guard = none) (s x : Operand)
    (ho : o.op = .call { callee := .builtin .append, args := #[s, x], argTypes := #[24, 24] })
    (u : World) (l m : List Pv) (v : Value) (hs : a.eval s = v) (hr : PRow u l v w) (ao : Option Addr) (c k : Nat) (hk : m.length = k) (hx : a.eval x = .slice ao k c) (hrd : Reads w 2 ao k (spCells m))
    (hlen : l.length + m.length ≤ 100000)
    (h : ∀ v' w', PRow u (l ++ m) v' w' → wpList Tryd.prog ops Q rest (a.put o.dst v') w') : wpList Tryd.prog ops Q (o :: rest) a w := by
  refine wpList_append_reads hgd s x 24 ho u.heap.size 33 _ 2 32 Tryd.info33 Tryd.underlying24 rfl (by decide) v l.length (spCells l) hs hr.1 ao k c (spCells m) hx hrd (spCells_one m) (by unfold maxLen; omega) (by omega) hr.2.size ?_
  intro v' w' hown hm _
  refine h v' w' ⟨?_, hr.2.trans hm (fun i hi e => ?_)⟩
  · rw [List.length_append, spCells_append, hk]; exact hown
  · have := (hr.1.lt i e).1; omega
theorem reads_new1 (w : World) (n t : ByteArray) : Reads (w.alloc (.cells #[.string n, .string t] 33)) 2 (some ⟨w.heap.size, 0, none⟩) 1 (spCells [(n, t)]) := by
  have := Reads.new w 33 #[.string n, .string t] 2 1 rfl
  exact (show Reads _ _ _ _ [.string n, .string t] by simpa using this)
theorem reads_new2 (w : World) (n t n2 t2 : ByteArray) : Reads (w.alloc (.cells #[.string n, .string t, .string n2, .string t2] 33)) 2 (some ⟨w.heap.size, 0, none⟩) 2 (spCells [(n, t), (n2, t2)]) := by
  have := Reads.new w 33 #[.string n, .string t, .string n2, .string t2] 2 2 rfl
  exact (show Reads _ _ _ _ [.string n, .string t, .string n2, .string t2] by simpa using this)
end Go.Proofs.YtmecdhbiinpepaaDoor

/- vars.Place, answered, from what its callees answer. Conditions: at most 1000 variables ahead, a path of at most 65536 bytes. -/
namespace Go.Proofs.YtmecdhbiinpepaaDoor
open Go.RowKit Go.Gim

theorem may_rises {x : Int × Int} {n : Nat} (h : mayV x n = true) : risesB x.1 x.2 n = true := by
  unfold mayV at h
  exact rises_of (by simpa using h)

set_option maxHeartbeats 6400000 in
set_option maxRecDepth 1000000 in
theorem vplace_walk (R : Rp) (x : Int × Int) (env : List Pv) (eo : Option Addr) (cap : Nat) (w : World) (h : RopeAt w R) (hn : mayV (spanI x) R.t.size = true)
    (hr : Reads w 2 eo env.length (spCells env)) (hel : env.length ≤ 1000) (hpl : ∀ p, getV pathN env = some p → p.size ≤ 65536)
    (line f t : Int) (lt wd n0 n1 : ByteArray)
    (hat : ∀ w', Ext w w' → Calls Tryd.prog 18 #[.agg #[.pointer (some ⟨R.rb, 0, none⟩)], .int .i64 x.2] w' fun e w2 => e = .returned (.tuple #[.int .i64 line, .int .i64 0]) ∧ Ext w' w2)
    (hst : ∀ w', Ext w w' → Calls Tryd.prog 19 #[.agg #[.pointer (some ⟨R.rb, 0, none⟩)], .int .i64 line] w' fun e w2 => e = .returned (.tuple #[.int .i64 f, .int .i64 0]) ∧ Ext w' w2)
    (hed : ∀ w', Ext w w' → Calls Tryd.prog 20 #[.agg #[.pointer (some ⟨R.rb, 0, none⟩)], .int .i64 line] w' fun e w2 => e = .returned (.tuple #[.int .i64 t, .int .i64 0]) ∧ Ext w' w2)
    (hsl : ∀ w', Ext w w' → Calls Tryd.prog 35 #[.pointer (some ⟨R.rb, 0, none⟩), .int .i64 f, .int .i64 t] w' fun e w2 => e = .returned (.tuple #[.string lt, .int .i64 0]) ∧ Ext w' w2)
    (hsb : wrap64 (x.2 - f) = x.2 - f)
    (hwd : ∀ w', Calls Tryd.prog 36 #[.string lt, .int .i64 (x.2 - f)] w' fun e w2 => e = .returned (.string wd) ∧ w2 = w')
    (hli : wrap64 (line + 1) = line + 1)
    (hi0 : ∀ w', Ext w w' → Calls Tryd.prog 37 #[.int .i64 line] w' fun e w2 => e = .returned (.string n0) ∧ Ext w' w2)
    (hi1 : ∀ w', Ext w w' → Calls Tryd.prog 37 #[.int .i64 (line + 1)] w' fun e w2 => e = .returned (.string n1) ∧ Ext w' w2)
    (L : List Pv) (hL : (((((([] : List Pv) ++ selP (bs (cut R.text (spanI x).1 (spanI x).2))) ++ [(curN, lt)]) ++ wordP wd) ++ [(idxN, n0), (numN, n1)]) ++ pathP (getV pathN env)) ++ env = L) :
    Calls Tryd.prog 13 #[.agg #[.pointer (some ⟨R.rb, 0, none⟩)], .agg #[.int .i64 x.1, .int .i64 x.2], .slice eo env.length cap] w fun e w' => ∃ v, e = .returned (.tuple #[v, .int .i64 0]) ∧ w'.ownsRow w.heap.size 33 2 v L.length (spCells L) ∧ Ext w w' := by
  have Hn := Lib.hid hn
  have Hrs := Lib.hid (may_rises hn)
  have Hr := Lib.hid hr
  have Hat := Lib.hid hat
  have Hst := Lib.hid hst
  have Hed := Lib.hid hed
  have Hsl := Lib.hid hsl
  have Hwd := Lib.hid hwd
  have Hi0 := Lib.hid hi0
  have Hi1 := Lib.hid hi1
  have Hpl := Lib.hid hpl
  have Hsb := Lib.hid hsb
  have Hli := Lib.hid hli
  have HGet := Lib.hid (fun w' h' => vget_any pathN eo cap env w' h' (by omega))
  obtain ⟨N, hN⟩ : ∃ N, N = env.length := ⟨_, rfl⟩
  have HN := Lib.hid hN
  rw [← hN] at hel ⊢
  rw [← hN] at HGet
  have HLL := Lib.hid hL
  clear hn hr hat hst hed hsl hwd hi0 hi1 hpl hL hN hsb hli
  obtain ⟨wa, hwa⟩ : ∃ wa, wa = (w.alloc (.cells #[.pointer (some ⟨R.rb, 0, none⟩)] 29)).alloc (.cells #[.int .i64 x.1, .int .i64 x.2] 23) := ⟨_, rfl⟩
  have hxa : Ext w wa := by rw [hwa]; exact ((Mod.refl _ w).alloc _).alloc _
  have hb2 : Blk wa w.heap.size 29 #[.pointer (some ⟨R.rb, 0, none⟩)] := by rw [hwa]; exact (Blk.new _ _ _).alloc _
  have hb4 : Blk wa (w.heap.size + 1) 23 #[.int .i64 x.1, .int .i64 x.2] := by
    have e4 : (w.alloc (.cells #[.pointer (some ⟨R.rb, 0, none⟩)] 29)).heap.size = w.heap.size + 1 := by simp
    rw [hwa, ← e4]; exact Blk.new _ _ _
  have hs2 : wa.heap.size = w.heap.size + 2 := by rw [hwa]; simp
  go_enter Tryd.func13, Tryd.ntmps13
  go_wp2_with fail
  rw [← hwa]
  clear hwa
  refine (spanV_any x wa).mono ?_
  rintro e w1 ⟨rfl, hx1⟩
  go_wp2_with fail
  obtain ⟨u, hu⟩ : ∃ u, u = w1.alloc (.cells #[.int .i64 (spanI x).1, .int .i64 (spanI x).2] 65) := ⟨_, rfl⟩
  have hx2 : Ext w1 u := by rw [hu]; exact (Mod.refl _ _).alloc _
  have hbs : Blk u w1.heap.size 65 #[.int .i64 (spanI x).1, .int .i64 (spanI x).2] := by rw [hu]; exact Blk.new _ _ _
  rw [← hu]
  clear hu
  have hxu := hxa.ext_trans (hx1.ext_trans hx2)
  have hbu := (hb2.mod (hx1.ext_trans hx2) (fun f => f))
  have hbv := (hb4.mod (hx1.ext_trans hx2) (fun f => f))
  have HR := Lib.hid (fun w' (h' : Ext u w') => h.ext (hxu.ext_trans h'))
  have HS := Lib.hid (fun w' (hw' : Ext u w') => (⟨(hw'.cell hbu.lt (fun f => f)).trans (hbu.cell 0), (hw'.cell hbs.lt (fun f => f)).trans (hbs.cell 0), (hw'.cell hbs.lt (fun f => f)).trans (hbs.cell 1), (hw'.cell hbv.lt (fun f => f)).trans (hbv.cell 0), (hw'.cell hbv.lt (fun f => f)).trans (hbv.cell 1), trivial⟩ :
    w'.cell? ⟨w.heap.size, 0, none⟩ = some (.pointer (some ⟨R.rb, 0, none⟩)) ∧ w'.cell? ⟨w1.heap.size, 0, none⟩ = some (.int .i64 (spanI x).1) ∧ w'.cell? ⟨w1.heap.size, 1, none⟩ = some (.int .i64 (spanI x).2) ∧ w'.cell? ⟨w.heap.size + 1, 0, none⟩ = some (.int .i64 x.1) ∧ w'.cell? ⟨w.heap.size + 1, 1, none⟩ = some (.int .i64 x.2) ∧ True))
  clear hb2 hb4 hs2 hbs hbu hbv hx1 hx2
  have HLen := Lib.hid (fun w' (h' : Ext u w') => Calls.same_ext (len_any R _ (HR.out w' h')))
  have HMay := Lib.hid (fun w' => mayV_any (spanI x) R.t.size w')
  refine wp_region_E (by kernel_rfl) ?_
  refine wpE_take 0 28 (v := ?_) rfl rfl (by kernel_rfl) (by kernel_rfl) (by kernel_rfl) (fun _ _ _ h => h) (by first | exact ext_draw _ | assumption) rfl ?_ ?_
  rotate_left
  · intro w' hw'
    obtain ⟨r0, r1, r2, r3⟩ := HS.out w' hw'
    refine qat_value ?_
    go_simp
    rfl
  simp only [Act.put, List.setIfInBounds_toArray, List.set_cons_zero, List.set_cons_succ]
  refine wpE_take 1 29 (v := ?_) rfl rfl (by kernel_rfl) (by kernel_rfl) (by kernel_rfl) (fun _ _ _ h => h) (by first | exact ext_draw _ | assumption) rfl ?_ ?_
  rotate_left
  · intro w' hw'
    refine qat_value ?_
    go_simp
    rfl
  simp only [Act.put, List.setIfInBounds_toArray, List.set_cons_zero, List.set_cons_succ]
  refine wpE_take 2 30 (v := ?_) rfl rfl (by kernel_rfl) (by kernel_rfl) (by kernel_rfl) (fun _ _ _ h => h) (by first | exact ext_draw _ | assumption) rfl ?_ ?_
  rotate_left
  · intro w' hw'
    obtain ⟨r0, r1, r2, r3⟩ := HS.out w' hw'
    refine qat_value ?_
    go_simp
    rfl
  simp only [Act.put, List.setIfInBounds_toArray, List.set_cons_zero, List.set_cons_succ]
  refine wpE_take 3 31 (v := ?_) rfl rfl (by kernel_rfl) (by kernel_rfl) (by kernel_rfl) (fun _ _ _ h => h) (by first | exact ext_draw _ | assumption) rfl ?_ ?_
  rotate_left
  · intro w' hw'
    refine qat_enter (by go_simp; exact ⟨rfl, rfl⟩) ?_
    exact HLen.out _ hw'
  simp only [Act.put, List.setIfInBounds_toArray, List.set_cons_zero, List.set_cons_succ]
  refine wpE_take 4 32 (v := ?_) rfl rfl (by kernel_rfl) (by kernel_rfl) (by kernel_rfl) (fun _ _ _ h => h) (by first | exact ext_draw _ | assumption) rfl ?_ ?_
  rotate_left
  · intro w' hw'
    refine qat_enter (by go_simp; exact ⟨rfl, rfl⟩) ?_
    exact HMay.out _
  simp only [Act.put, List.setIfInBounds_toArray, List.set_cons_zero, List.set_cons_succ]
  refine wpE_take 5 33 (v := ?_) rfl rfl (by kernel_rfl) (by kernel_rfl) (by kernel_rfl) (fun _ _ _ h => h) (by first | exact ext_draw _ | assumption) rfl ?_ ?_
  rotate_left
  · intro w' hw'
    refine qat_value ?_
    go_simp
    rfl
  simp only [Act.put, List.setIfInBounds_toArray, List.set_cons_zero, List.set_cons_succ]
  refine wpE_done (by kernel_rfl) (fun u5 hu5 => ?_) _
  rw [Hn.out]
  have hv5 := (ext_draw u).ext_trans hu5
  have HR5 := Lib.hid (HR.out u5 hv5)
  obtain ⟨r0, r1, r2, _⟩ := HS.out u5 hv5
  have k0 := World.block_lt_of_cell? _ _ r0
  go_wp2_with fail
  refine (slice_yes R _ _ u5 HR5.out Hrs.out).mono ?_
  rintro e u6 ⟨rfl, hx6⟩
  generalize hT : bs (cut R.text (spanI x).1 (spanI x).2) = tt at *
  have hy6 := hv5.ext_trans hx6
  have s1 := (hx6.cell k0 (fun f => f)).trans r0
  clear r0 r1 r2 k0 hu5 hv5 hx6 HR5 hT
  have Hy6 := Lib.hid hy6
  go_upto_if 45 with fail
  go_cut [9] (fun v9 wx => ∃ (v : Value) (wn : World), v = v9 ∧ wn = wx ∧ Hid (PRow u6 (([] : List Pv) ++ selP tt) v wn))
  case first =>
    by_cases ht : tt = ⟨#[]⟩
    · have b1 := empty_yes ht
      have HP := Lib.hid (show selP tt = [] from if_pos ht)
      have b2 : (!tt.toList.isEmpty) = false := by rw [b1]; rfl
      rw [b2]
      clear ht
      go_wp2_with fail
      go_meet
      case rel => exact ⟨_, _, rfl, rfl, Lib.hid (by rw [HP.out]; exact PRow.nil u6)⟩
    · have b1 := empty_no ht
      have HP := Lib.hid (show selP tt = [(selN, tt)] from if_neg ht)
      clear ht
      go_wp2_with (at_builtin; refine wpList_row rfl _ _ rfl u6 [] [(selN, tt)] _ rfl ((PRow.nil u6).ext ((Mod.refl _ u6).alloc _)) _ _ 1 rfl rfl (reads_new1 _ _ _) (by simp) ?_)
      intro v' w4 hrow
      have Hrow := Lib.hid hrow
      clear hrow
      go_wp2_with fail
      go_meet
      case rel => exact ⟨_, _, rfl, rfl, Lib.hid (by rw [HP.out]; exact Hrow.out)⟩
      all_goals exact absurd ‹(!tt.toList.isEmpty) = false› (by rw [b1]; decide)
  case rest =>
    obtain ⟨v9, wn, rfl, rfl, H9⟩ := hcut
    clear s1 hy6
    have m1 : (([] : List Pv) ++ selP tt).length ≤ 1 := by simpa using selP_len tt
    generalize hL1 : ([] : List Pv) ++ selP tt = L1 at *
    have M1 := Lib.hid m1
    clear m1
    have hy9 := Hy6.out.ext_trans H9.out.2
    obtain ⟨r0, _, _, r3, r4, _⟩ := HS.out wn hy9
    go_wp2_with fail
    refine (Hat.out wn (hxu.ext_trans hy9)).mono ?_
    rintro e w10 ⟨rfl, hx10⟩
    have hy10 := hy9.ext_trans hx10
    have H10 := Lib.hid (H9.out.ext hx10)
    clear r0 r3 r4 H9 hx10 hy9
    obtain ⟨r0, _, _, r3, r4, _⟩ := HS.out w10 hy10
    go_wp2_with fail
    refine (Hst.out w10 (hxu.ext_trans hy10)).mono ?_
    rintro e w11 ⟨rfl, hx11⟩
    have hy11 := hy10.ext_trans hx11
    have H11 := Lib.hid (H10.out.ext hx11)
    clear r0 r3 r4 H10 hx11 hy10
    obtain ⟨r0, _, _, r3, r4, _⟩ := HS.out w11 hy11
    go_wp2_with fail
    refine (Hed.out w11 (hxu.ext_trans hy11)).mono ?_
    rintro e w12 ⟨rfl, hx12⟩
    have hy12 := hy11.ext_trans hx12
    have H12 := Lib.hid (H11.out.ext hx12)
    clear r0 r3 r4 H11 hx12 hy11
    obtain ⟨r0, _, _, r3, r4, _⟩ := HS.out w12 hy12
    go_wp2_with fail
    refine (Hsl.out w12 (hxu.ext_trans hy12)).mono ?_
    rintro e w13 ⟨rfl, hx13⟩
    have hy13 := hy12.ext_trans hx13
    have H13 := Lib.hid (H12.out.ext hx13)
    clear r0 r3 r4 H12 hx13 hy12 hy13
    go_wp2_with (at_builtin; refine wpList_row rfl _ _ rfl u6 L1 [(curN, lt)] _ rfl (H13.out.ext ((Mod.refl _ w13).alloc _)) _ _ 1 rfl rfl (reads_new1 _ _ _) ?hl1 ?_)
    case hl1 => have := M1.out; simp; omega
    intro v14 w14 h14
    have hy14 := Hy6.out.ext_trans h14.2
    clear H13
    obtain ⟨r0, _, _, r3, r4, _⟩ := HS.out w14 hy14
    go_wp2_with fail
    rw [Hsb.out]
    refine (Hwd.out w14).mono ?_
    rintro e w15 ⟨rfl, rfl⟩
    clear r0 r3 r4
    have Hrow := Lib.hid h14
    clear h14 hy14
    have m2 : (L1 ++ [(curN, lt)]).length ≤ 2 := by have := M1.out; simp; omega
    generalize hL2 : L1 ++ [(curN, lt)] = L2 at *
    have M2 := Lib.hid m2
    clear m2
    go_upto_if 90 with fail
    go_cut [9] (fun v9 wx => ∃ (v : Value) (wn : World), v = v9 ∧ wn = wx ∧ Hid (PRow u6 (L2 ++ wordP wd) v wn))
    case first =>
      by_cases ht : wd = ⟨#[]⟩
      · have b1 := empty_yes ht
        have HP := Lib.hid (show wordP wd = [] from if_pos ht)
        have b2 : (!wd.toList.isEmpty) = false := by rw [b1]; rfl
        rw [b2]
        clear ht
        go_wp2_with fail
        go_meet
        case rel => exact ⟨_, _, rfl, rfl, Lib.hid (by rw [HP.out, List.append_nil]; exact Hrow.out)⟩
      · have b1 := empty_no ht
        have HP := Lib.hid (show wordP wd = [(wrdN, wd)] from if_neg ht)
        clear ht
        go_wp2_with (at_builtin; refine wpList_row rfl _ _ rfl u6 L2 [(wrdN, wd)] _ rfl (Hrow.out.ext ((Mod.refl _ w15).alloc _)) _ _ 1 rfl rfl (reads_new1 _ _ _) ?hl2 ?_)
        case hl2 => have := M2.out; simp; omega
        intro v' w4 hrow
        have Hrow2 := Lib.hid hrow
        clear hrow
        go_wp2_with fail
        go_meet
        case rel => exact ⟨_, _, rfl, rfl, Lib.hid (by rw [HP.out]; exact Hrow2.out)⟩
        all_goals exact absurd ‹(!wd.toList.isEmpty) = false› (by rw [b1]; decide)
    case rest =>
      obtain ⟨v9, wn, rfl, rfl, H9⟩ := hcut
      have m3 : (L2 ++ wordP wd).length ≤ 3 := by have := M2.out; have := wordP_len wd; rw [List.length_append]; omega
      generalize hL3 : L2 ++ wordP wd = L3 at *
      have M3 := Lib.hid m3
      clear m3
      go_wp2_with fail
      refine (Hi0.out wn (hxu.ext_trans (Hy6.out.ext_trans H9.out.2))).mono ?_
      rintro e w16 ⟨rfl, hx16⟩
      have H16 := Lib.hid (H9.out.ext hx16)
      clear H9 hx16
      go_wp2_with fail
      rw [Hli.out]
      refine (Hi1.out w16 (hxu.ext_trans (Hy6.out.ext_trans H16.out.2))).mono ?_
      rintro e w17 ⟨rfl, hx17⟩
      have H17 := Lib.hid (H16.out.ext hx17)
      clear H16 hx17
      go_wp2_with (at_builtin; refine wpList_row rfl _ _ rfl u6 L3 [(idxN, n0), (numN, n1)] _ rfl (H17.out.ext ((Mod.refl _ w17).alloc _)) _ _ 2 rfl rfl (reads_new2 _ _ _ _ _) ?hl3 ?_)
      case hl3 => have := M3.out; simp; omega
      intro v18 w18 h18
      have H18 := Lib.hid h18
      have m4 : (L3 ++ [(idxN, n0), (numN, n1)]).length ≤ 5 := by have := M3.out; simp; omega
      clear h18 H17
      generalize hL4 : L3 ++ [(idxN, n0), (numN, n1)] = L4 at *
      have M4 := Lib.hid m4
      clear m4
      have hr18 := Hr.out.mod (hxu.ext_trans (Hy6.out.ext_trans H18.out.2)) (fun _ _ f => f)
      rw [← HN.out] at hr18
      have Hr18 := Lib.hid hr18
      clear hr18
      go_wp2_with fail
      refine (HGet.out w18 Hr18.out).mono ?_
      rintro e w19 ⟨rfl, hx19⟩
      have H19 := Lib.hid (H18.out.ext hx19)
      have Hr19 := Lib.hid (Hr18.out.mod hx19 (fun _ _ f => f))
      unfold GotV
      clear H18 Hr18 hx19
      generalize getV pathN env = G at *
      go_upto_if 111 with fail
      go_cut [9] (fun v9 wx => ∃ (v : Value) (wn : World), v = v9 ∧ wn = wx ∧ Hid (PRow u6 (L4 ++ pathP G) v wn))
      case first =>
        cases G with
        | none =>
          go_wp2_with fail
          go_meet
          case rel => exact ⟨_, _, rfl, rfl, Lib.hid (by rw [show pathP none = [] from rfl, List.append_nil]; exact H19.out)⟩
        | some pth =>
          have hpz := Hpl.out pth rfl
          go_wp2_with fail
          refine (vfile_any pth w19 hpz).mono ?_
          rintro e w20 ⟨vf, rfl, hof, hx20⟩
          obtain ⟨af, cf, rfl, hrf⟩ := ownsS_reads hof
          have Hrf := Lib.hid hrf
          have H20 := Lib.hid (H19.out.ext hx20)
          clear hrf hof hx20
          go_wp2_with (at_builtin; refine wpList_row rfl _ _ rfl u6 L4 (fileL pth) _ rfl H20.out _ _ (fileL pth).length rfl rfl Hrf.out ?hl4 ?_)
          case hl4 => have := M4.out; have := pathP_len (some pth); simp only [pathP] at this; omega
          intro v' w4 hrow
          have Hrow2 := Lib.hid hrow
          clear hrow
          go_wp2_with fail
          go_meet
          case rel => exact ⟨_, _, rfl, rfl, Lib.hid Hrow2.out⟩
      case rest =>
        obtain ⟨v9, wn, rfl, rfl, H9⟩ := hcut
        have m5 : (L4 ++ pathP G).length ≤ 8 := by have := M4.out; have := pathP_len G; rw [List.length_append]; omega
        generalize hL5 : L4 ++ pathP G = L5 at *
        have M5 := Lib.hid m5
        have hrn := Hr.out.mod (hxu.ext_trans (Hy6.out.ext_trans H9.out.2)) (fun _ _ f => f)
        rw [← HN.out] at hrn
        have Hrn := Lib.hid hrn
        clear m5 hrn
        go_wp2_with (at_builtin; refine wpList_row rfl _ _ rfl u6 L5 env _ rfl H9.out _ _ N HN.out.symm rfl Hrn.out ?hl5 ?_)
        case hl5 => have := M5.out; have := HN.out; omega
        intro v' w4 hrow
        have Hrow2 := Lib.hid hrow
        clear hrow
        rw [HLL.out] at Hrow2
        go_wp2_with fail
        go_ret2
        have hfin := hxu.ext_trans Hy6.out
        exact ⟨_, rfl, ownsRow_base Hrow2.out.1 hfin.size, hfin.ext_trans Hrow2.out.2⟩
end Go.Proofs.YtmecdhbiinpepaaDoor

/- vars.Place, answered: what it gives is this list. Conditions: texts of at most 98 bytes (fewer than 100 lines); at most 1000 variables ahead, a path of at most 65536 bytes. -/
namespace Go.Gim
/-- The line of an offset, its text, the word there. -/
def lineAt (l : List UInt8) (k : Nat) : Nat := brk (l.take k)
def ltAt (l : List UInt8) (k : Nat) : ByteArray := bs (cut l (lineN l (lineAt l k) : Nat) (lineE l (lineAt l k) : Nat))
def wdAt (l : List UInt8) (k : Nat) : ByteArray :=
  (ltAt l k).extract (fromW (ltAt l k).data.toList (k - lineN l (lineAt l k))) (toW (ltAt l k).data.toList (k - lineN l (lineAt l k)))
def placeL (l : List UInt8) (x : Int × Int) (env : List Pv) : List Pv :=
  (((((([] : List Pv) ++ selP (bs (cut l (spanI x).1 (spanI x).2))) ++ [(curN, ltAt l x.2.toNat)]) ++ wordP (wdAt l x.2.toNat)) ++ [(idxN, digS (lineAt l x.2.toNat)), (numN, digS (lineAt l x.2.toNat + 1))]) ++ pathP (getV pathN env)) ++ env
theorem upto_geV (way : Int) (l : List UInt8) (f n : Nat) (hf : f ≤ l.length) (h : byW way (l.take f) ≤ n) : f ≤ upto way l n := by
  have e := upto_append_ge way (l.take f) (l.drop f) n h
  rw [List.take_append_drop, List.length_take] at e
  omega
theorem lineE_geV (l : List UInt8) (k : Nat) (hk : k ≤ l.length) : k ≤ lineE l (lineAt l k) := upto_geV 3 l k _ hk (Nat.le_of_eq (byW3 _))
theorem lineAt_le (l : List UInt8) (k : Nat) : lineAt l k ≤ brk l := by
  have := brk_append (l.take k) (l.drop k)
  rw [List.take_append_drop] at this
  unfold lineAt; omega
theorem ltAt_size (l : List UInt8) (k : Nat) : (ltAt l k).size = lineE l (lineAt l k) - lineN l (lineAt l k) := by
  have h := lineE_le l (lineAt l k)
  unfold ltAt bs
  show (List.toArray _).size = _
  rw [List.size_toArray, cut_len]
  simp only [Int.toNat_natCast]
  omega
theorem itoaS_dig : ∀ i, i < 100 → itoaS i = digS i := by decide +kernel
end Go.Gim
namespace Go.Proofs.YtmecdhbiinpepaaDoor
open Go.RowKit Go.Gim
theorem itoa_dig (i : Nat) (w : World) (hi : i < 100) : Calls Tryd.prog 37 #[.int .i64 i] w fun e w' => e = .returned (.string (digS i)) ∧ Ext w w' := by
  rw [← itoaS_dig i hi]
  exact Calls.same_ext (itoa_any i w hi)

theorem vplace_yes (R : Rp) (x : Int × Int) (env : List Pv) (eo : Option Addr) (cap : Nat) (w : World) (h : RopeAt w R) (hn : mayV (spanI x) R.t.size = true) (hz : R.t.size ≤ 98)
    (hr : Reads w 2 eo env.length (spCells env)) (hel : env.length ≤ 1000) (hpl : ∀ p, getV pathN env = some p → p.size ≤ 65536) :
    Calls Tryd.prog 13 #[.agg #[.pointer (some ⟨R.rb, 0, none⟩)], .agg #[.int .i64 x.1, .int .i64 x.2], .slice eo env.length cap] w fun e w' => ∃ v, e = .returned (.tuple #[v, .int .i64 0]) ∧ w'.ownsRow w.heap.size 33 2 v (placeL R.text x env).length (spCells (placeL R.text x env)) ∧ Ext w w' := by
  have hlen : R.text.length = R.t.size := rfl
  have hm := hn
  unfold mayV spanI at hm
  have hm := of_decide_eq_true hm
  simp only at hm
  obtain ⟨k, hk⟩ : ∃ k : Nat, x.2 = k := ⟨x.2.toNat, by omega⟩
  have hkn : x.2.toNat = k := by omega
  have hk2 : k ≤ R.text.length := by omega
  have hL : lineAt R.text k ≤ brk R.text := lineAt_le _ _
  have hb := brk_le R.text
  have hf : lineN R.text (lineAt R.text k) ≤ k := lineN_le R.text k
  have he : k ≤ lineE R.text (lineAt R.text k) := lineE_geV _ _ hk2
  have he2 := lineE_le R.text (lineAt R.text k)
  have hhas : hasB R.text (lineAt R.text k : Nat) = true := has_of ⟨by omega, by omega⟩
  have hsz := ltAt_size R.text k
  refine vplace_walk R x env eo cap w h hn hr hel hpl (lineAt R.text k : Nat) (lineN R.text (lineAt R.text k) : Nat) (lineE R.text (lineAt R.text k) : Nat) (ltAt R.text k) (wdAt R.text k) (digS (lineAt R.text k)) (digS (lineAt R.text k + 1))
    (fun w' hx => ?_) (fun w' hx => ?_) (fun w' hx => ?_) (fun w' hx => ?_) ?_ (fun w' => ?_) ?_ (fun w' hx => ?_) (fun w' hx => ?_) _ ?_
  · have := at_yes R x.2 w' (h.ext hx) (rises_of ⟨by omega, by omega, by omega⟩)
    rw [hkn] at this
    exact this
  · exact start_yes R _ w' (h.ext hx) hhas
  · exact end_yes R _ w' (h.ext hx) hhas
  · exact slice_yes R _ _ w' (h.ext hx) (rises_of ⟨by omega, by omega, by omega⟩)
  · exact IntWalk.wrap64_in _ ⟨by omega, by omega⟩
  · rw [hk, show (k : Int) - (lineN R.text (lineAt R.text k) : Nat) = ((k - lineN R.text (lineAt R.text k) : Nat) : Int) by omega]
    exact vword_any _ _ w' (by omega) (by omega)
  · exact IntWalk.wrap64_in _ ⟨by omega, by omega⟩
  · exact itoa_dig _ w' (by omega)
  · exact itoa_dig (lineAt R.text k + 1) w' (by omega)
  · unfold placeL; rw [hkn]
end Go.Proofs.YtmecdhbiinpepaaDoor

/- What the statements on variables call to see that the program is one: it answers true. Conditions: none. -/
namespace Go.Gim
def awkE : List Pv := [(pathN, ⟨#[47, 97, 47, 98, 46, 99, 46, 103, 111]⟩)]
def awkT : List UInt8 := [97, 98, 32, 99, 100]
theorem awk_word : getV wrdN (placeL awkT (4, 4) awkE) = some ⟨#[99, 100]⟩ := by decide +kernel
theorem awk_base : getV ⟨#[84, 77, 95, 70, 73, 76, 69, 78, 65, 77, 69, 95, 66, 65, 83, 69]⟩ (placeL awkT (4, 4) awkE) = some ⟨#[98, 46, 99]⟩ := by decide +kernel
theorem awk_path : getV pathN awkE = some ⟨#[47, 97, 47, 98, 46, 99, 46, 103, 111]⟩ := by decide +kernel
theorem awk_known : knownB ⟨#[85, 85, 73, 68]⟩ = true := by decide +kernel
theorem awk_len : (placeL awkT (4, 4) awkE).length ≤ 1000000 := by decide +kernel
end Go.Gim
namespace Go.Proofs.YtmecdhbiinpepaaDoor
open Go.RowKit Go.Gim
set_option maxHeartbeats 1600000 in
set_option maxRecDepth 1000000 in
theorem awake23_any (w : World) : Calls Tryd.prog 11 #[] w fun e w' => e = .returned (.bool true) ∧ Ext w w' := by
  go_enter Tryd.func11, Tryd.ntmps11
  go_wp2_with fail
  refine (of23_any ⟨#[97, 98, 32, 99, 100]⟩ w (by decide)).mono ?_
  rintro e w1 ⟨R, rfl, hR, hT, hx, -, -⟩
  have hT2 : R.text = awkT := hT
  go_wp2_with fail
  obtain ⟨w2, hw2⟩ : ∃ w2, w2 = w1.alloc (.cells #[.pointer (some ⟨R.rb, 0, none⟩)] 29) := ⟨_, rfl⟩
  have hx2 : Ext w1 w2 := by rw [hw2]; exact (Mod.refl _ w1).alloc _
  have hs2 : w1.heap.size + 1 = w2.heap.size := by rw [hw2]; simp
  rw [hs2, ← hw2]
  have hrd := reads_new1 w2 pathN ⟨#[47, 97, 47, 98, 46, 99, 46, 103, 111]⟩
  have hx3 : Ext w2 (w2.alloc (.cells #[.string pathN, .string ⟨#[47, 97, 47, 98, 46, 99, 46, 103, 111]⟩] 33)) := (Mod.refl _ w2).alloc _
  have hz : R.t.size = 5 := by
    have : R.text.length = R.t.size := rfl
    rw [← this, hT2]; rfl
  refine (vplace_yes R (4, 4) awkE (some ⟨w2.heap.size, 0, none⟩) 1 _ (hR.ext (hx2.ext_trans hx3)) (by rw [hz]; rfl) (by omega) hrd (by decide) (fun p hp => ?_)).mono ?_
  · rw [awk_path] at hp
    cases hp
    decide
  rintro e w4 ⟨v, rfl, hv, hx4⟩
  rw [hT2] at hv
  obtain ⟨a1, c1, rfl, hra⟩ := ownsS_reads hv
  have Hra := Lib.hid hra
  have HL := Lib.hid awk_len
  have hy4 := hx.ext_trans (hx2.ext_trans (hx3.ext_trans hx4))
  have G1 := Lib.hid awk_word
  have G2 := Lib.hid awk_base
  generalize placeL awkT (4, 4) awkE = L at *
  clear hra hv hrd hx3 hx4 hw2 hs2
  go_wp2_with fail
  refine (vget_any wrdN a1 c1 L w4 Hra.out HL.out).mono ?_
  rintro e w5 ⟨rfl, hx5⟩
  rw [gotV_some G1.out]
  have Hra5 := Lib.hid (Hra.out.mod hx5 (fun _ _ f => f))
  go_wp2_with fail
  refine (vget_any _ a1 c1 L w5 Hra5.out HL.out).mono ?_
  rintro e w6 ⟨rfl, hx6⟩
  rw [gotV_some G2.out]
  go_wp2_with fail
  refine (known_any _ w6).mono ?_
  rintro e w7 ⟨rfl, rfl⟩
  rw [awk_known]
  go_wp2_with fail
  go_ret
  exact ⟨rfl, hy4.ext_trans (hx5.ext_trans hx6)⟩
end Go.Proofs.YtmecdhbiinpepaaDoor

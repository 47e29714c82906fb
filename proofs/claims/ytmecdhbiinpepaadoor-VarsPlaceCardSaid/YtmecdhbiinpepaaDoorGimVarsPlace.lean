/- What a place gives is the document's, at any place of any text, by any variables: the walk. Conditions: none. -/
import Derived.Test.YtmecdhbiinpepaaDoorGimVarsPlaceNo
import Derived.Test.YtmecdhbiinpepaaDoorGimVarsNil
import Derived.Test.YtmecdhbiinpepaaDoorGimPlaceTab
import Derived.Test.YtmecdhbiinpepaaDoorGimBoxV
import Derived.Test.YtmecdhbiinpepaaDoorGimPackZ
import Derived.Test.YtmecdhbiinpepaaDoorGimLow
namespace Go.Gim
/-- What a place gives, and its code. -/
def placeR (l : List UInt8) (x : Int × Int) (env : List Pv) : List Pv := if mayV (spanI x) l.length then placeL l x env else []
def placeE (l : List UInt8) (x : Int × Int) : Int := if mayV (spanI x) l.length then 0 else 3
theorem placeR_len (l : List UInt8) (x : Int × Int) (env : List Pv) : (placeR l x env).length ≤ 8 + env.length := by
  unfold placeR
  split
  · unfold placeL
    have h1 := selP_len (bs (cut l (spanI x).1 (spanI x).2))
    have h2 := wordP_len (wdAt l x.2.toNat)
    have h3 := pathP_len (getV pathN env)
    simp only [List.length_append, List.length_cons, List.length_nil]
    omega
  · exact Nat.zero_le _
end Go.Gim
namespace Go.Proofs.YtmecdhbiinpepaaDoor
open Go.RowKit Go.Gim

theorem vplace_all (R : Rp) (x : Int × Int) (env : List Pv) (eo : Option Addr) (cap : Nat) (w : World) (h : RopeAt w R) (ht : Tab w)
    (hr : Reads w 2 eo env.length (spCells env)) (hel : env.length ≤ 1000) (hpl : ∀ p, getV pathN env = some p → p.size ≤ 65536) :
    Calls Tryd.prog 13 #[.agg #[.pointer (some ⟨R.rb, 0, none⟩)], .agg #[.int .i64 x.1, .int .i64 x.2], .slice eo env.length cap] w fun e w' => ∃ ao c, e = .returned (.tuple #[.slice ao (placeR R.text x env).length c, .int .i64 (placeE R.text x)]) ∧ Reads w' 2 ao (placeR R.text x env).length (spCells (placeR R.text x env)) ∧ Ext w w' := by
  unfold placeR placeE
  rw [show R.text.length = R.t.size from rfl]
  cases hn : mayV (spanI x) R.t.size with
  | false =>
    refine (vplace_no R x (.slice eo env.length cap) w h hn).mono ?_
    rintro e w' ⟨rfl, hx⟩
    exact ⟨none, 0, rfl, Reads.own (World.ownsRow_nil w' 0 33 2), hx⟩
  | true =>
    refine (vplace_tab R x env eo cap w h hn ht hr hel hpl).mono ?_
    rintro e w' ⟨v, rfl, hov, hx⟩
    obtain ⟨ao, c, rfl, hrd⟩ := ownsS_reads hov
    exact ⟨ao, c, rfl, hrd, hx⟩
theorem docPlace_all (s : ByteArray) (x : Int × Int) (env : List Pv) (eo : Option Addr) (cap : Nat) (w : World) (hs : s.size ≤ 65536)
    (hr : Reads w 2 eo env.length (spCells env)) (hel : env.length ≤ 1000) (hpl : ∀ p, getV pathN env = some p → p.size ≤ 65536) :
    Calls Tryd.prog 14 #[.string s, .agg #[.int .i64 x.1, .int .i64 x.2], .slice eo env.length cap] w fun e w' => ∃ ao c, e = .returned (.tuple #[.slice ao (placeR s.data.toList x env).length c, .int .i64 (placeE s.data.toList x)]) ∧ Reads w' 2 ao (placeR s.data.toList x env).length (spCells (placeR s.data.toList x env)) ∧ Ext w w' := by
  unfold placeR placeE
  rw [show s.data.toList.length = s.size from rfl]
  cases hn : mayV (spanI x) s.size with
  | false =>
    refine (docPlace_no s x (.slice eo env.length cap) w hn).mono ?_
    rintro e w' ⟨rfl, hx⟩
    exact ⟨none, 0, rfl, Reads.own (World.ownsRow_nil w' 0 33 2), hx⟩
  | true =>
    refine (docPlace_yes s x env eo cap w hs hn hr hel hpl).mono ?_
    rintro e w' ⟨v, rfl, hov, hx⟩
    obtain ⟨ao, c, rfl, hrd⟩ := ownsS_reads hov
    exact ⟨ao, c, rfl, hrd, hx⟩

theorem in_may {n p q : Nat} (hp : p ≤ n) (hq : q ≤ n) : mayV (spanI ((p : Int), (q : Int))) n = true := by
  unfold mayV spanI; exact decide_eq_true (by simp only; omega)
def extraP (has : Bool) (path : ByteArray) : List Pv := if has then [(pathN, path)] else []
theorem extra_path {l : List Pv} {has : Bool} {path : ByteArray} (hsz : (sizeV l : Int) ≤ 200) (hp : path.size ≤ 60) : ∀ p, getV pathN (l ++ extraP has path) = some p → p.size ≤ 65536 := by
  intro p h
  have hz := getV_size h
  have e : sizeV (l ++ extraP has path) ≤ sizeV l + (pathN.size + path.size) := by
    unfold sizeV extraP
    cases has <;> simp
  have e2 : pathN.size = 11 := rfl
  omega
set_option maxHeartbeats 3200000 in
set_option maxRecDepth 1000000 in
theorem varsPlace_any (w : World) (s : ByteArray) (x : Int × Int) (ao : Option Addr) (cap : Nat) (l : List Pv) (hr : Reads w 2 ao l.length (spCells l)) (hl : l.length ≤ maxLen) (path : ByteArray) (has : Bool) (hs : s.size ≤ 150) (hp : path.size ≤ 60) (he : envB 8 200 l = false) (ht : Tab w) :
    Calls Tryd.prog 3 #[.string s, .agg #[.int .i64 x.1, .int .i64 x.2], .slice ao l.length cap, .string path, .bool has] w fun e w' => e = .returned (.bool true) ∧ Ext w w' := by
  have hlen := envB_len he
  have hsz : (sizeV l : Int) ≤ 200 := envR_size l 200 (by unfold envB at he; split at he; cases he; exact he) (by omega)
  have Hpl := Lib.hid (extra_path (l := l) (has := has) hsz hp)
  have i1 : ¬ (150 : Int) < (s.size : Int) := by omega
  have i2 : ¬ (60 : Int) < (path.size : Int) := by omega
  have i3 : decide ((150 : Int) < (s.size : Int)) = false := decide_eq_false i1
  have henv := Lib.hid (fun w' h => env_any 8 200 ao cap l w' h (by omega) (by omega) hl (by omega))
  have Hr := Lib.hid hr
  have He := Lib.hid he
  have Hl := Lib.hid hlen
  have Ht := Lib.hid ht
  obtain ⟨p, hp1, L1⟩ := low_nat2 x.1 (s.size + 1) ((s.size : Int) + 1) (by omega) (by omega) (by omega)
  obtain ⟨q, hq1, L2⟩ := low_nat2 x.2 (s.size + 1) ((s.size : Int) + 1) (by omega) (by omega) (by omega)
  have HL1 := Lib.hid (fun v => Calls.same_ext (L1 v))
  have HL2 := Lib.hid (fun v => Calls.same_ext (L2 v))
  have Hin := Lib.hid (in_may (n := s.size) (p := p) (q := q) (by omega) (by omega))
  obtain ⟨N, hN⟩ : ∃ N, N = l.length := ⟨_, rfl⟩
  have HN := Lib.hid hN
  rw [← hN] at henv ⊢
  clear hr he hl hlen hN hsz ht L1 L2 hp1 hq1 hp
  obtain ⟨wa, hwa⟩ : ∃ wa, wa = w.alloc (.cells #[.int .i64 x.1, .int .i64 x.2] 23) := ⟨_, rfl⟩
  have hxa : Ext w wa := by rw [hwa]; exact (Mod.refl _ w).alloc _
  have hb4 : Blk wa w.heap.size 23 #[.int .i64 x.1, .int .i64 x.2] := by rw [hwa]; exact Blk.new _ _ _
  have Hra := Lib.hid (Hr.out.mod hxa (fun _ _ f => f))
  rw [← HN.out] at Hra
  go_enter Tryd.func3, Tryd.ntmps3
  go_wp2_with fail
  rw [← hwa]
  clear hwa
  refine (henv.out wa Hra.out).mono ?_
  rintro e w1 ⟨rfl, hx1⟩
  rw [He.out]
  go_wp2_with fail
  refine (of23_any s w1 (by omega)).mono ?_
  rintro e w2 ⟨R, rfl, hR, hT, hx2, -, -⟩
  go_upto_region 6 with fail
  obtain ⟨u, hu⟩ : ∃ u, u = w2.alloc (.cells #[.pointer (some ⟨R.rb, 0, none⟩)] 29) := ⟨_, rfl⟩
  have hxu2 : Ext w2 u := by rw [hu]; exact (Mod.refl _ w2).alloc _
  have hbl : Blk u w2.heap.size 29 #[.pointer (some ⟨R.rb, 0, none⟩)] := by rw [hu]; exact Blk.new _ _ _
  rw [← hu]
  clear hu
  have hy1 := hx1.ext_trans (hx2.ext_trans hxu2)
  have hyu := hxa.ext_trans hy1
  have hb := hb4.mod hy1 (fun f => f)
  have HR := Lib.hid (fun w' (h' : Ext u w') => hR.ext (hxu2.ext_trans h'))
  have HS0 := Lib.hid (fun w' (hw' : Ext u w') => (⟨(hw'.cell hb.lt (fun f => f)).trans (hb.cell 0), (hw'.cell hb.lt (fun f => f)).trans (hb.cell 1), (hw'.cell hbl.lt (fun f => f)).trans (hbl.cell 0), trivial⟩ :
    w'.cell? ⟨w.heap.size, 0, none⟩ = some (.int .i64 x.1) ∧ w'.cell? ⟨w.heap.size, 1, none⟩ = some (.int .i64 x.2) ∧ w'.cell? ⟨w2.heap.size, 0, none⟩ = some (.pointer (some ⟨R.rb, 0, none⟩)) ∧ True))
  have hlts := Lib.hid (⟨hb.lt, hbl.lt⟩ : w.heap.size < u.heap.size ∧ w2.heap.size < u.heap.size)
  have hrl := Hr.out.mod hyu (fun _ _ f => f)
  rw [← HN.out] at hrl
  have Hrl := Lib.hid hrl
  have HT := Lib.hid hT
  have Hyu := Lib.hid hyu
  clear hb4 hx1 hx2 hxu2 hbl hb hR hT hrl hy1 hyu hxa Hra henv i1 i2 i3
  have hrn := Lib.hid (Hrl.out.alloc (.cells #[] 33))
  go_wp2_with (at_builtin; refine wpList_row rfl _ _ rfl u [] l _ rfl ⟨World.ownsRow_lit u #[] 0 (Nat.le_refl _) (by unfold maxLen; omega) rfl, (Mod.refl _ u).alloc _⟩ _ _ N HN.out.symm rfl hrn.out ?hl5 ?_)
  case hl5 => have := Hl.out; simp only [List.length_nil]; omega
  intro v13 w13 h13
  have H13 := Lib.hid h13
  clear h13 hrn
  go_upto_if 46 with fail
  go_cut [13] (fun v9 wx => ∃ (v : Value) (wn : World), v = v9 ∧ wn = wx ∧ Hid (PRow u (l ++ extraP has path) v wn))
  case first =>
    cases has with
    | false =>
      go_wp2_with fail
      go_meet
      case rel => exact ⟨_, _, rfl, rfl, Lib.hid (by rw [show extraP false path = [] from rfl, List.append_nil]; exact H13.out)⟩
    | true =>
      go_wp2_with (at_builtin; refine wpList_row rfl _ _ rfl u ([] ++ l) [(pathN, path)] _ rfl (H13.out.ext ((Mod.refl _ w13).alloc _)) _ _ 1 rfl rfl (reads_new1 _ _ _) ?hl6 ?_)
      case hl6 => have := Hl.out; simp only [List.length_append, List.length_cons, List.length_nil]; omega
      intro v14 w14 h14
      have H14 := Lib.hid h14
      clear h14
      go_wp2_with fail
      go_meet
      case rel => exact ⟨_, _, rfl, rfl, Lib.hid (by rw [show extraP true path = [(pathN, path)] from rfl]; exact H14.out)⟩
  case rest =>
    obtain ⟨v9, wn, rfl, rfl, H9⟩ := hcut
    have hAl : (l ++ extraP has path).length ≤ 9 := by
      have := Hl.out
      rw [List.length_append]
      have : (extraP has path).length ≤ 1 := by unfold extraP; cases has <;> simp
      omega
    generalize l ++ extraP has path = A at *
    obtain ⟨aa, ca, rfl, hra⟩ := ownsS_reads H9.out.1
    have HRA := Lib.hid hra
    have HAl := Lib.hid hAl
    have HVu := Lib.hid H9.out.2
    have HV := Lib.hid (fun y w' (h' : Ext wn w') => vplace_all R y A aa ca w' (HR.out w' (HVu.out.ext_trans h')) (Ht.out.ext (Hyu.out.ext_trans (HVu.out.ext_trans h'))) (HRA.out.mod h' (fun _ _ f => f)) (by have := HAl.out; omega) Hpl.out)
    have HD := Lib.hid (fun y w' (h' : Ext wn w') => docPlace_all s y A aa ca w' (by omega) (HRA.out.mod h' (fun _ _ f => f)) (by have := HAl.out; omega) Hpl.out)
    rw [HT.out] at HV
    obtain ⟨r0, r1, r2, _⟩ := HS0.out wn HVu.out
    generalize hNA : A.length = NA at HV HD ⊢
    clear H9 hra hAl H13 hNA
    go_wp2_with fail
    refine (HV.out x wn (Mod.refl _ wn)).mono ?_
    rintro e w20 ⟨a1, c1, rfl, hr1, hx20⟩
    have hq1 := Lib.hid (show (placeR s.data.toList x A).length ≤ 1000000 by have := placeR_len s.data.toList x A; have := HAl.out; omega)
    have hq2 := Lib.hid (show (placeR s.data.toList ((p : Int), (q : Int)) A).length ≤ 1000000 by have := placeR_len s.data.toList ((p : Int), (q : Int)) A; have := HAl.out; omega)
    have He0 := Lib.hid (show placeE s.data.toList ((p : Int), (q : Int)) = 0 by unfold placeE; rw [show s.data.toList.length = s.size from rfl, Hin.out]; rfl)
    have hu20 := HVu.out.ext_trans hx20
    clear r0 r1 r2
    obtain ⟨r0, r1, r2, _⟩ := HS0.out w20 hu20
    go_wp2_with fail
    refine (HD.out x w20 hx20).mono ?_
    rintro e w21 ⟨a2, c2, rfl, hr2, hx21⟩
    have Hr1 := Lib.hid (hr1.mod hx21 (fun _ _ f => f))
    have Hr2 := Lib.hid hr2
    have hn21 := hx20.ext_trans hx21
    have hu21 := hu20.ext_trans hx21
    have HVp := Lib.hid (HV.out ((p : Int), (q : Int)))
    have HDp := Lib.hid (HD.out ((p : Int), (q : Int)))
    generalize placeR s.data.toList x A = P1 at *
    generalize placeE s.data.toList x = E1 at *
    clear r0 r1 r2 hr1 hr2 hx20 hx21 hu20 HV HD
    obtain ⟨r0, r1, r2, _⟩ := HS0.out w21 hu21
    have HS := Lib.hid (fun w' (h' : Ext w21 w') => HS0.out w' (hu21.ext_trans h'))
    go_wp2_with fail
    clear r0 r1 r2
    refine wp_region_E (by kernel_rfl) ?_
    refine wpE_take 0 66 (v := ?_) rfl rfl (by kernel_rfl) (by kernel_rfl) (by kernel_rfl) (fun _ _ _ h => h) (by first | exact ext_draw _ | assumption) rfl ?_ ?_
    rotate_left
    · intro w' hw'
      refine qat_value ?_
      go_simp
      rfl
    simp only [Act.put, List.setIfInBounds_toArray, List.set_cons_zero, List.set_cons_succ]
    refine wpE_take 1 67 (v := ?_) rfl rfl (by kernel_rfl) (by kernel_rfl) (by kernel_rfl) (fun _ _ _ h => h) (by first | exact ext_draw _ | assumption) rfl ?_ ?_
    rotate_left
    · intro w' hw'
      obtain ⟨r0, r1, r2, r3⟩ := HS.out w' hw'
      refine qat_value ?_
      go_simp
      rfl
    simp only [Act.put, List.setIfInBounds_toArray, List.set_cons_zero, List.set_cons_succ]
    refine wpE_take 2 68 (v := ?_) rfl rfl (by kernel_rfl) (by kernel_rfl) (by kernel_rfl) (fun _ _ _ h => h) (by first | exact ext_draw _ | assumption) rfl ?_ ?_
    rotate_left
    · intro w' hw'
      refine qat_value ?_
      go_simp
      rfl
    simp only [Act.put, List.setIfInBounds_toArray, List.set_cons_zero, List.set_cons_succ]
    refine wpE_take 3 69 (v := ?_) rfl rfl (by kernel_rfl) (by kernel_rfl) (by kernel_rfl) (fun _ _ _ h => h) (by first | exact ext_draw _ | assumption) rfl ?_ ?_
    rotate_left
    · intro w' hw'
      refine qat_value ?_
      go_simp
      rfl
    simp only [Act.put, List.setIfInBounds_toArray, List.set_cons_zero, List.set_cons_succ]
    have hwr : IntKind.i64.wrap ((s.size : Int) + 1) = (s.size : Int) + 1 := IntWalk.i64_in _ (by omega)
    refine wpE_take 4 70 (v := ?_) rfl rfl (by kernel_rfl) (by kernel_rfl) (by kernel_rfl) (fun _ _ _ h => h) (by first | exact ext_draw _ | assumption) rfl ?_ ?_
    rotate_left
    · intro w' hw'
      refine qat_value ?_
      go_simp
      rfl
    simp only [Act.put, List.setIfInBounds_toArray, List.set_cons_zero, List.set_cons_succ]
    clear hwr
    refine wpE_take 5 71 (v := ?_) rfl rfl (by kernel_rfl) (by kernel_rfl) (by kernel_rfl) (fun _ _ _ h => h) (by first | exact ext_draw _ | assumption) rfl ?_ ?_
    rotate_left
    · intro w' hw'
      refine qat_enter (by go_simp; exact ⟨rfl, rfl⟩) ?_
      exact HL1.out _
    simp only [Act.put, List.setIfInBounds_toArray, List.set_cons_zero, List.set_cons_succ]
    refine wpE_take 6 72 (v := ?_) rfl rfl (by kernel_rfl) (by kernel_rfl) (by kernel_rfl) (fun _ _ _ h => h) (by first | exact ext_draw _ | assumption) rfl ?_ ?_
    rotate_left
    · intro w' hw'
      refine qat_value ?_
      go_simp
      rfl
    simp only [Act.put, List.setIfInBounds_toArray, List.set_cons_zero, List.set_cons_succ]
    refine wpE_take 7 73 (v := ?_) rfl rfl (by kernel_rfl) (by kernel_rfl) (by kernel_rfl) (fun _ _ _ h => h) (by first | exact ext_draw _ | assumption) rfl ?_ ?_
    rotate_left
    · intro w' hw'
      obtain ⟨r0, r1, r2, r3⟩ := HS.out w' hw'
      refine qat_value ?_
      go_simp
      rfl
    simp only [Act.put, List.setIfInBounds_toArray, List.set_cons_zero, List.set_cons_succ]
    refine wpE_take 8 74 (v := ?_) rfl rfl (by kernel_rfl) (by kernel_rfl) (by kernel_rfl) (fun _ _ _ h => h) (by first | exact ext_draw _ | assumption) rfl ?_ ?_
    rotate_left
    · intro w' hw'
      refine qat_value ?_
      go_simp
      rfl
    simp only [Act.put, List.setIfInBounds_toArray, List.set_cons_zero, List.set_cons_succ]
    refine wpE_take 9 75 (v := ?_) rfl rfl (by kernel_rfl) (by kernel_rfl) (by kernel_rfl) (fun _ _ _ h => h) (by first | exact ext_draw _ | assumption) rfl ?_ ?_
    rotate_left
    · intro w' hw'
      refine qat_value ?_
      go_simp
      rfl
    simp only [Act.put, List.setIfInBounds_toArray, List.set_cons_zero, List.set_cons_succ]
    have hwr : IntKind.i64.wrap ((s.size : Int) + 1) = (s.size : Int) + 1 := IntWalk.i64_in _ (by omega)
    refine wpE_take 10 76 (v := ?_) rfl rfl (by kernel_rfl) (by kernel_rfl) (by kernel_rfl) (fun _ _ _ h => h) (by first | exact ext_draw _ | assumption) rfl ?_ ?_
    rotate_left
    · intro w' hw'
      refine qat_value ?_
      go_simp
      rfl
    simp only [Act.put, List.setIfInBounds_toArray, List.set_cons_zero, List.set_cons_succ]
    clear hwr
    refine wpE_take 11 77 (v := ?_) rfl rfl (by kernel_rfl) (by kernel_rfl) (by kernel_rfl) (fun _ _ _ h => h) (by first | exact ext_draw _ | assumption) rfl ?_ ?_
    rotate_left
    · intro w' hw'
      refine qat_enter (by go_simp; exact ⟨rfl, rfl⟩) ?_
      exact HL2.out _
    simp only [Act.put, List.setIfInBounds_toArray, List.set_cons_zero, List.set_cons_succ]
    refine wpE_take 12 78 (v := ?_) rfl rfl (by kernel_rfl) (by kernel_rfl) (by kernel_rfl) (fun _ _ _ h => h) (by first | exact ext_draw _ | assumption) rfl ?_ ?_
    rotate_left
    · intro w' hw'
      refine qat_value ?_
      go_simp
      rfl
    simp only [Act.put, List.setIfInBounds_toArray, List.set_cons_zero, List.set_cons_succ]
    refine wpE_box (x := #[.int .i64 p, .int .i64 q]) box_sel 13 14 18 78 rfl rfl ⟨rfl, rfl⟩ ⟨rfl, rfl⟩ ⟨rfl, rfl⟩ (by kernel_rfl) (by kernel_rfl) (by kernel_rfl) ⟨by simp, by decide⟩ rfl rfl (by intro u hu; simp at hu; rcases hu with rfl | rfl <;> rfl) (ext_draw _) ?_
    intro w22 pb hx22 hpb hbp
    simp only [Act.put, List.setIfInBounds_toArray, List.set_cons_zero, List.set_cons_succ]
    have hn22 := hn21.ext_trans hx22
    have hu22 := hu21.ext_trans hx22
    obtain ⟨r0, r1, r2, _⟩ := HS0.out w22 hu22
    have c0 : w22.cell? ⟨pb, 0, none⟩ = some (.int .i64 p) := hbp.cell 0
    have c1' : w22.cell? ⟨pb, 1, none⟩ = some (.int .i64 q) := hbp.cell 1
    have hpl := hbp.lt
    clear HS HL1 HL2
    go_wp2_with fail
    refine (HVp.out w22 hn22).mono ?_
    rintro e w23 ⟨a3, c3, rfl, hr3, hx23⟩
    have hn23 := hn22.ext_trans hx23
    have hu23 := hu22.ext_trans hx23
    have hbp' := hbp.mod hx23 (fun f => f)
    clear r0 r1 r2 c0 c1' hpl hbp hpb
    obtain ⟨r0, r1, r2, _⟩ := HS0.out w23 hu23
    have c0 : w23.cell? ⟨pb, 0, none⟩ = some (.int .i64 p) := hbp'.cell 0
    have c1' : w23.cell? ⟨pb, 1, none⟩ = some (.int .i64 q) := hbp'.cell 1
    have hpl := hbp'.lt
    go_wp2_with fail
    refine (HDp.out w23 hn23).mono ?_
    rintro e w24 ⟨a4, c4, rfl, hr4, hx24⟩
    have hu24 := hu23.ext_trans hx24
    have hy24 := (hx22.ext_trans hx23).ext_trans hx24
    have HP1 := Lib.hid (fun w' (h' : Ext w24 w') => pairsSame a1 a2 c1 c2 P1 w' (Hr1.out.mod (hy24.ext_trans h') (fun _ _ f => f)) (Hr2.out.mod (hy24.ext_trans h') (fun _ _ f => f)) hq1.out)
    have HP2 := Lib.hid (fun w' (h' : Ext w24 w') => pairsSame a3 a4 c3 c4 (placeR s.data.toList ((p : Int), (q : Int)) A) w' (hr3.mod (hx24.ext_trans h') (fun _ _ f => f)) (hr4.mod h' (fun _ _ f => f)) hq2.out)
    rw [He0.out]
    generalize placeR s.data.toList ((p : Int), (q : Int)) A = P2 at *
    have hend := Lib.hid (Hyu.out.ext_trans hu24)
    clear r0 r1 r2 c0 c1' hpl hbp' hr3 hr4 hx22 hx23 hx24 hu22 hu23 hn22 hn23 hy24 HVp HDp
    have e1 : (E1 == E1) = true := beq_self_eq_true E1
    go_wp2_with fail
    refine (HP1.out w24 (Mod.refl _ _)).mono ?_
    rintro e w25 ⟨rfl, hx25⟩
    go_wp2_with fail
    refine (HP2.out w25 hx25).mono ?_
    rintro e w26 ⟨rfl, hx26⟩
    go_wp2_with fail
    refine (awake23_any _).mono ?_
    rintro e w27 ⟨rfl, hx27⟩
    go_wp2_with fail
    go_ret
    exact ⟨rfl, ((hend.out.ext_trans hx25).ext_trans hx26).ext_trans hx27⟩
set_option maxHeartbeats 800000 in
set_option maxRecDepth 1000000 in
theorem varsPlace_calls (w : World) (s : ByteArray) (_ : s.size ≤ 9223372036854775807) (x : Int × Int) (_ : (Lit.int .i64 x.1).wf = true ∧ (Lit.int .i64 x.2).wf = true) (ao : Option Addr) (cap : Nat) (l : List Pv) (hr : Reads w 2 ao l.length (spCells l)) (hl : l.length ≤ maxLen) (_ : ∀ x ∈ l, x.1.size ≤ maxLen ∧ x.2.size ≤ maxLen) (path : ByteArray) (_ : path.size ≤ 9223372036854775807) (has : Bool) (ht : Tab w) :
    Calls Tryd.prog 3 #[.string s, .agg #[.int .i64 x.1, .int .i64 x.2], .slice ao l.length cap, .string path, .bool has] w fun e w' => e = .returned (.bool true) ∧ Ext w w' := by
  by_cases h1 : (150 : Int) < (s.size : Int)
  · clear ht
    go_enter Tryd.func3, Tryd.ntmps3
    go_wp2_with fail
    refine (awake23_any _).mono ?_
    rintro e w1 ⟨rfl, hx⟩
    go_wp2_with fail
    go_ret
    exact ⟨rfl, ((Mod.refl _ w).alloc _).ext_trans hx⟩
  · have hxa : Ext w (w.alloc (.cells #[.int .i64 x.1, .int .i64 x.2] 23)) := (Mod.refl _ w).alloc _
    have henv := env_any 8 200 ao cap l _ (hr.mod hxa (fun _ _ f => f)) (by omega) (by omega) hl (by omega)
    cases he : envB 8 200 l with
    | true =>
      clear hr ht
      go_enter Tryd.func3, Tryd.ntmps3
      go_wp2_with fail
      refine henv.mono ?_
      rintro e w1 ⟨rfl, hx1⟩
      rw [he]
      go_wp2_with fail
      refine (awake23_any _).mono ?_
      rintro e w2 ⟨rfl, hx2⟩
      go_wp2_with fail
      go_ret
      exact ⟨rfl, hxa.ext_trans (hx1.ext_trans hx2)⟩
    | false =>
      by_cases h2 : (60 : Int) < (path.size : Int)
      · clear hr ht
        go_enter Tryd.func3, Tryd.ntmps3
        go_wp2_with fail
        refine henv.mono ?_
        rintro e w1 ⟨rfl, hx1⟩
        rw [he]
        go_wp2_with fail
        refine (awake23_any _).mono ?_
        rintro e w2 ⟨rfl, hx2⟩
        go_wp2_with fail
        go_ret
        exact ⟨rfl, hxa.ext_trans (hx1.ext_trans hx2)⟩
      · exact varsPlace_any w s x ao cap l hr hl path has (by omega) (by omega) he ht
end Go.Proofs.YtmecdhbiinpepaaDoor

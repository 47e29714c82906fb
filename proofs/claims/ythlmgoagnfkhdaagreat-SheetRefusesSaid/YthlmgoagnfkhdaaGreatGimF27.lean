/- The document's Sort of stretches. Conditions: at most 1000 of them. -/
import Derived.Test.YthlmgoagnfkhdaaGreatGimF14
import Derived.Test.YthlmgoagnfkhdaaGreatGimF10
import Derived.Test.YthlmgoagnfkhdaaGreatGimF05
import Derived.Test.YthlmgoagnfkhdaaGreatGimF03
import Derived.Test.YthlmgoagnfkhdaaGreatGimF15
import Derived.Lib.SmallJoins
set_option maxHeartbeats 6400000
set_option maxRecDepth 1000000
set_option linter.unusedVariables false
set_option linter.unusedSimpArgs false
namespace Go.Gim
open Go Go.RowKit
theorem rdSp_at {w : World} {b off n : Nat} {l : List (Int × Int)} (h : Reads w 2 (some ⟨b, off, none⟩) n (prE.cells l)) {i : Nat} {x : (Int × Int)} (hx : l[i]? = some x) : w.cell? ⟨b, off + i * 2, none⟩ = some (.int .i64 x.1) ∧ w.cell? ⟨b, off + i * 2 + 1, none⟩ = some (.int .i64 x.2) :=
 ⟨Enc.reads_at (E := prE) (j := 0) h hx rfl, Enc.reads_at (E := prE) (j := 1) h hx rfl⟩
end Go.Gim
namespace Go.Proofs.YthlmgoagnfkhdaaGreat
open Go.RowKit Go.Gim
end Go.Proofs.YthlmgoagnfkhdaaGreat
namespace Go.Gim
open Go Go.RowKit
theorem rdEd_at {w : World} {b off n : Nat} {l : List Ed} (h : Reads w 3 (some ⟨b, off, none⟩) n (edE.cells l)) {i : Nat} {x : Ed} (hx : l[i]? = some x) : w.cell? ⟨b, off + i * 3, none⟩ = some (.int .i64 x.a) ∧ w.cell? ⟨b, off + i * 3 + 1, none⟩ = some (.int .i64 x.b) ∧ w.cell? ⟨b, off + i * 3 + 2, none⟩ = some (.string x.t) :=
 ⟨Enc.reads_at (E := edE) (j := 0) h hx rfl, Enc.reads_at (E := edE) (j := 1) h hx rfl, Enc.reads_at (E := edE) (j := 2) h hx rfl⟩
end Go.Gim
namespace Go.Proofs.YthlmgoagnfkhdaaGreat
open Go.RowKit Go.Gim
end Go.Proofs.YthlmgoagnfkhdaaGreat
namespace Go.Gim
def rangedE (n : Int) (es : List Ed) : Int := if es.all (fun e => mayS (edS e) n) then (if apartB (es.map edS) then 0 else 5) else 3
theorem rangedE_no {n : Int} {es : List Ed} {i : Nat} {e : Ed} (hi : es[i]? = some e) (h : mayS (edS e) n = false) : rangedE n es = 3 := by
 unfold rangedE
 rw [if_neg]
 intro ha
 rw [List.all_eq_true.1 ha e (List.mem_of_getElem? hi)] at h
 cases h
theorem rangedE_yes {n : Int} {es : List Ed} (h : ∀ (i : Nat) (e : Ed), i < es.length → es[i]? = some e → mayS (edS e) n = true) : rangedE n es = if apartB (es.map edS) then 0 else 5 := by
 unfold rangedE
 rw [if_pos]
 refine List.all_eq_true.2 fun e he => ?_
 obtain ⟨i, hi, rfl⟩ := List.getElem_of_mem he
 exact h i _ hi (List.getElem?_eq_getElem hi)
end Go.Gim
namespace Go.Proofs.YthlmgoagnfkhdaaGreat
open Go.RowKit Go.Gim
end Go.Proofs.YthlmgoagnfkhdaaGreat
namespace Go.Gim
open Go Go.RowKit
structure Dm where
 k : Int
 a : Int
 b : Int
 c : Int
 p : Bool
 q : Bool
 ao : Option Addr
 cap : Nat
 es : List Ed
structure DmOk (w : World) (x : Dm) : Prop where
 rd : Reads w 3 x.ao x.es.length (edE.cells x.es)
 len : x.es.length ≤ maxLen
 ed : ∀ e ∈ x.es, e.t.size ≤ maxLen ∧ (Lit.int .i64 e.a).wf = true ∧ (Lit.int .i64 e.b).wf = true
 wa : (Lit.int .i64 x.a).wf = true
 wb : (Lit.int .i64 x.b).wf = true
 wc : (Lit.int .i64 x.c).wf = true
theorem DmOk.ext {w w' : World} {x : Dm} (h : DmOk w x) (hm : Ext w w') : DmOk w' x := ⟨h.rd.mod hm (fun _ _ f => f), h.len, h.ed, h.wa, h.wb, h.wc⟩
def muchE (n : Int) : List Ed → Bool
 | [] => false
 | x :: r => if n < x.t.size then true else muchE (n - x.t.size) r
def MuchB (many n : Int) (es : List Ed) : Bool := if many < es.length then true else muchE n es
theorem muchE_no : ∀ (l : List Ed) (n : Int), muchE n l = false → ∀ e ∈ l, (e.t.size : Int) ≤ n := by
 intro l
 induction l with
 | nil => intro n _ e he; cases he
 | cons x r ih =>
  intro n h e he
  simp only [muchE] at h
  split at h
  ·cases h
  ·rcases List.mem_cons.1 he with rfl | he
   ·omega
   ·have := ih _ h e he; omega
theorem array7 {α : Type} {cs : Array α} (h : cs.size = 7) : ∃ c0 c1 c2 c3 c4 c5 c6, cs = #[c0, c1, c2, c3, c4, c5, c6] := by
 obtain ⟨l⟩ := cs
 match l, h with
 | [c0, c1, c2, c3, c4, c5, c6], _ => exact ⟨c0, c1, c2, c3, c4, c5, c6, rfl⟩
end Go.Gim
namespace Go.Proofs.YthlmgoagnfkhdaaGreat
open Go.ChangeShapes Go.WideShapes Go.ChangeAt Go.RowKit Go.Gim
theorem open_slice_in {H : Type} {enc : TypeId × Value → H} {P : Program} {W : World} {t e : TypeId} {cs : List Value} {fuel : Nat} {y : DataW H × List MemPlace} (sz : Nat) (ht : P.underlying t = some (.slice e)) (hc : P.cellsOf e = sz) (hsz : 0 < sz)
  (hf : DataW.trod enc P W 0 (fun _ => true) true fuel t cs = some y) :
  ∃ (ao : Option Addr) (cap : Nat) (els : List (List Value)), cs = [.slice ao els.length cap] ∧ Reads W sz ao els.length els.flatten ∧ els.length ≤ maxLen ∧
   ∀ el ∈ els, el.length = sz ∧ ∃ n x, DataW.trod enc P W 0 (fun _ => true) true n e el = some x := by
 rcases Go.Deep.open_slice ht hf with ⟨hcs, _⟩ | ⟨a, len', cap', m, n, D, Pl, hcs, _, hl, hm, hmm, _, hx⟩
 ·subst hcs
  exact ⟨none, 0, [], rfl, ⟨by simp, fun h => absurd h (Nat.lt_irrefl _)⟩, Nat.zero_le _, by simp⟩
 ·subst hcs
  simp only [if_true] at hmm
  subst hmm
  obtain ⟨C, hC⟩ := Go.Deep.choose_lt (α := List Value) (p := fun i cs' => W.cells? 0 (a.add (i * P.cellsOf e)) (P.cellsOf e) = some cs' ∧ DataW.trod enc P W 0 (fun _ => true) true n e cs' = some (D i, Pl i)) hx
  rw [hc] at hC
  have hlen : ∀ el ∈ (List.range len').map C, el.length = sz := by
   intro el hel
   obtain ⟨i, hi, rfl⟩ := List.mem_map.1 hel
   have := (World.cells?_some (hC i (by simp at hi; omega)).1).2.1
   exact this
  have hn : ((List.range len').map C).length = len' := by simp
  refine ⟨some a, m, (List.range len').map C, by rw [hn], ⟨flatten_len sz _ hlen, fun h0 => ?_⟩, by omega, fun el hel => ⟨hlen el hel, ?_⟩⟩
  ·obtain ⟨b, off, spot⟩ := a
   have h00 := (World.cells?_some (hC 0 (by rw [hn] at h0; omega)).1).2.2 0 hsz
   have hl0 := (World.cells?_some (hC 0 (by rw [hn] at h0; omega)).1).2.1
   have hspot : spot = none := by
    rw [Nat.zero_mul] at h00
    have h01 : W.cell? ⟨b, off, spot⟩ = some ((C 0)[0]'(by omega)) := by
     have h02 : ((⟨b, off, spot⟩ : Addr).add 0).add 0 = ⟨b, off, spot⟩ := by simp [Addr.add]
     rw [h02] at h00
     rw [h00]; exact List.getElem?_eq_getElem _
    exact World.cell?_spot h01
   subst hspot
   refine ⟨b, off, rfl, fun j hj => ?_⟩
   rw [flatten_at sz hsz _ _ hlen]
   rw [flatten_len sz _ hlen, hn] at hj
   have hjd : j / sz < len' := (Nat.div_lt_iff_lt_mul hsz).2 hj
   have hcj := (World.cells?_some (hC (j / sz) (by omega)).1).2.2 (j % sz) (Nat.mod_lt _ hsz)
   rw [WideShapes.add_plain, WideShapes.add_plain, Nat.add_assoc, Nat.mul_comm, Nat.div_add_mod] at hcj
   rw [hcj]
   simp [hjd]
  ·obtain ⟨i, hi, rfl⟩ := List.mem_map.1 hel
   exact ⟨n, _, (hC i (by simp at hi; omega)).2⟩
theorem open_edits_in {H : Type} {enc : TypeId × Value → H} {P : Program} {W : World} {t e sp : TypeId} {f0 f1 g0 g1 : Field} {cs : List Value} {fuel : Nat} {y : DataW H × List MemPlace} (ht : P.underlying t = some (.slice e)) (he : P.underlying e = some (.struct #[f0, f1])) (hc : P.cellsOf e = 3)
  (hs : P.underlying sp = some (.struct #[g0, g1])) (t0 : f0.type = sp ∧ f0.offset = 0 ∧ P.cellsOf sp = 2) (o1 : f1.offset = 2 ∧ P.cellsOf f1.type = 1) (p0 : g0.offset = 0 ∧ P.cellsOf g0.type = 1) (p1 : g1.offset = 1 ∧ P.cellsOf g1.type = 1)
  (u0 : P.underlying g0.type = some (.int .i64)) (u1 : P.underlying g1.type = some (.int .i64)) (u2 : P.underlying f1.type = some .string)
  (hf : DataW.trod enc P W 0 (fun _ => true) true fuel t cs = some y) :
  ∃ (ao : Option Addr) (cap : Nat) (es : List Ed), cs = [.slice ao es.length cap] ∧ Reads W 3 ao es.length (edE.cells es) ∧ es.length ≤ maxLen ∧ ∀ e ∈ es, e.t.size ≤ maxLen ∧ (Lit.int .i64 e.a).wf = true ∧ (Lit.int .i64 e.b).wf = true := by
 obtain ⟨ao, cap, els, rfl, hr, hm, hel⟩ := open_slice_in (enc := enc) 3 ht hc (by omega) hf
 obtain ⟨L, rfl, hq⟩ := list_choose edE.f (fun e => e.t.size ≤ maxLen ∧ (Lit.int .i64 e.a).wf = true ∧ (Lit.int .i64 e.b).wf = true) els (fun el h => by
  obtain ⟨hl, n, x, hx⟩ := hel el h
  obtain ⟨y0, y1, m, _, _, h0, h1⟩ := trod_struct2 he hx
  obtain ⟨c0, c1, c2, hcs⟩ := Go.Joins.array3 (cs := el.toArray) (by simpa using hl)
  have hcs : el = [c0, c1, c2] := by simpa using congrArg Array.toList hcs
  subst hcs
  rw [t0.2.1, t0.1, t0.2.2] at h0
  rw [o1.1, o1.2] at h1
  simp at h0 h1
  obtain ⟨z0, z1, m2, _, _, k0, k1⟩ := trod_struct2 hs h0
  rw [p0.1, p0.2] at k0
  rw [p1.1, p1.2] at k1
  simp at k0 k1
  obtain ⟨a0, e0, _, l0⟩ := DataW.trod_int u0 k0
  obtain ⟨a1, e1, _, l1⟩ := DataW.trod_int u1 k1
  obtain ⟨a2, e2, _, l2⟩ := DataW.trod_string u2 h1
  simp at e0 e1 e2
  subst e0 e1 e2
  exact ⟨⟨a0, a1, a2⟩, rfl, l2, l0, l1⟩)
 rw [show (L.map edE.f).flatten = edE.cells L from rfl, List.length_map] at hr
 rw [List.length_map] at hm ⊢
 exact ⟨ao, cap, L, rfl, hr, hm, hq⟩
theorem MuchE_any (many n : Int) (ao : Option Addr) (cap : Nat) (L : List Ed) (w : World) (hr : Reads w 3 ao L.length (edE.cells L)) (hn : L.length ≤ maxLen) (hm : many ≤ 100) (h0 : 0 ≤ n) (h1 : n ≤ 1000000) :
  Calls Tryz.prog 27 #[.int .i64 many, .int .i64 n, .slice ao L.length cap] w fun e w' => e = .returned (.bool (MuchB many n L)) ∧ w' = w := by
 unfold maxLen at hn
 by_cases hmm : many < (L.length : Int)
 ·unfold MuchB
  rw [if_pos hmm]
  clear hr
  go_enter Tryz.func27, Tryz.ntmps27
  go_wp2_with fail
  go_ret
  exact ⟨rfl, rfl⟩
 ·unfold MuchB
  rw [if_neg hmm]
  have hn2 : L.length ≤ 100 := by omega
  generalize hX : muchE n L = X
  have HX := Lib.hid hX
  have Hr := Lib.hid hr
  clear hX hr
  go_enter Tryz.func27, Tryz.ntmps27
  go_wp2_with fail
  go_loop [1, 7] (fun s1 s2 => ∃ (k : Nat) (m : Int), k ≤ L.length ∧ 0 ≤ m ∧ m ≤ 1000000 ∧ s2 = .int .i64 k ∧ s1 = .int .i64 m ∧ Hid (muchE m (L.drop k) = X)) (fun _ s2 => L.length - (intOf s2).toNat)
  case atStart => exact ⟨0, n, by omega, h0, h1, rfl, rfl, HX⟩
  case round =>
   obtain ⟨k, m, hk, m0, m1, rfl, rfl, HM⟩ := hrel
   by_cases hlt : k < L.length
   ·have hlt' : (k : Int) < (L.length : Int) := by omega
    have hk0 : (0 : Int) ≤ (k : Int) := by omega
    obtain ⟨b, off, rfl⟩ := Hr.out.some (by omega)
    obtain ⟨_, _, hc⟩ := reads_ed Hr.out (List.getElem?_eq_getElem hlt)
    have hd := List.drop_eq_getElem_cons hlt
    have hM := HM.out
    rw [hd] at hM
    generalize L[k] = y at *
    simp only [muchE] at hM
    generalize y.t = x at *
    by_cases hx : m < (x.size : Int)
    ·rw [if_pos hx] at hM
     have hM2 := Lib.hid hM
     clear hM hd
     go_wp2_with fail
     go_ret
     exact ⟨ret_bool hM2.out, rfl⟩
    ·rw [if_neg hx] at hM
     have hx' : decide (m < (x.size : Int)) = false := by simpa using hx
     have hM2 := Lib.hid hM
     clear hM hd
     go_wp2_with fail
     go_round
     case rel => exact ⟨k + 1, m - x.size, by omega, by omega, by omega, by go_num, rfl, hM2⟩
     case measure => simp [intOf]; omega
   ·have hlt' : ¬ (k : Int) < (L.length : Int) := by omega
    have hM := HM.out
    rw [List.drop_of_length_le (by omega)] at hM
    have HM2 := Lib.hid hM
    clear hM
    go_wp2_with fail
    go_ret
    exact ⟨ret_bool HM2.out, rfl⟩
end Go.Proofs.YthlmgoagnfkhdaaGreat

/- The deeds that gimletlaw10's statements are given: how they come in; what much answers of them; their edits and selections near a text. Conditions: at most 100 deeds; a text of at most 900000 bytes. -/
import Derived.Test.YthlmgoagnfkhdaaGreatGimF27
import Derived.Test.YthlmgoagnfkhdaaGreatGimF26
import Derived.Test.YthlmgoagnfkhdaaGreatGimF38
import Derived.Test.YthlmgoagnfkhdaaGreatGimF07
import Derived.Test.YthlmgoagnfkhdaaGreatGimF31
import Derived.Test.YthlmgoagnfkhdaaGreatGimF41
import Derived.Test.YthlmgoagnfkhdaaGreatGimF42
import Derived.Test.YthlmgoagnfkhdaaGreatGimF43
import Derived.Test.YthlmgoagnfkhdaaGreatGimF34
import Derived.Test.YthlmgoagnfkhdaaGreatGimF33
import Derived.Test.YthlmgoagnfkhdaaGreatGimF25
import Derived.Test.YthlmgoagnfkhdaaGreatGimF37
import Derived.StillTail
set_option maxHeartbeats 6400000
set_option maxRecDepth 1000000
set_option linter.unusedVariables false
set_option linter.unusedSimpArgs false
namespace Go.Gim
open Go Go.RowKit
structure Ds where
 k : Int
 a : Int
 b : Int
 p : Bool
 t : ByteArray
 ao : Option Addr
 cap : Nat
 es : List Ed
 so : Option Addr
 scap : Nat
 sl : List (Int × Int)
def dsE : Enc Ds := ⟨7, by decide, fun x => [.int .i64 x.k, .int .i64 x.a, .int .i64 x.b, .bool x.p, .string x.t, .slice x.ao x.es.length x.cap, .slice x.so x.sl.length x.scap], fun _ => rfl, fun x u hu => by simp at hu; rcases hu with rfl | rfl | rfl | rfl | rfl | rfl | rfl <;> rfl⟩
structure DsOk (w : World) (x : Ds) : Prop where
 rd : Reads w 3 x.ao x.es.length (edE.cells x.es)
 len : x.es.length ≤ maxLen
 ed : ∀ e ∈ x.es, e.t.size ≤ maxLen ∧ (Lit.int .i64 e.a).wf = true ∧ (Lit.int .i64 e.b).wf = true
 wa : (Lit.int .i64 x.a).wf = true
 wb : (Lit.int .i64 x.b).wf = true
 sd : Reads w 2 x.so x.sl.length (prCells x.sl)
 slen : x.sl.length ≤ maxLen
 tl : x.t.size ≤ maxLen
theorem DsOk.ext {w w' : World} {x : Ds} (h : DsOk w x) (hm : Ext w w') : DsOk w' x := ⟨h.rd.mod hm (fun _ _ f => f), h.len, h.ed, h.wa, h.wb, h.sd.mod hm (fun _ _ f => f), h.slen, h.tl⟩
theorem reads_ds {w : World} {b off n : Nat} {L : List Ds} (h : Reads w 7 (some ⟨b, off, none⟩) n (dsE.cells L)) {i : Nat} {x : Ds} (hx : L[i]? = some x) :
  (w.cell? ⟨b, off + i * 7, none⟩ = some (.int .i64 x.k) ∧ w.cell? ⟨b, off + i * 7 + 1, none⟩ = some (.int .i64 x.a) ∧ w.cell? ⟨b, off + i * 7 + 2, none⟩ = some (.int .i64 x.b) ∧ w.cell? ⟨b, off + i * 7 + 3, none⟩ = some (.bool x.p)) ∧ w.cell? ⟨b, off + i * 7 + 4, none⟩ = some (.string x.t) ∧ w.cell? ⟨b, off + i * 7 + 5, none⟩ = some (.slice x.ao x.es.length x.cap) ∧ w.cell? ⟨b, off + i * 7 + 6, none⟩ = some (.slice x.so x.sl.length x.scap) :=
 ⟨⟨Enc.reads_at (E := dsE) (j := 0) h hx rfl, Enc.reads_at (E := dsE) (j := 1) h hx rfl, Enc.reads_at (E := dsE) (j := 2) h hx rfl, Enc.reads_at (E := dsE) (j := 3) h hx rfl⟩, Enc.reads_at (E := dsE) (j := 4) h hx rfl, Enc.reads_at (E := dsE) (j := 5) h hx rfl, Enc.reads_at (E := dsE) (j := 6) h hx rfl⟩
def bigS (x : Ds) : Bool := MuchB 6 40 x.es || decide (40 < x.t.size) || decide (6 < x.sl.length)
def muchS (L : List Ds) : Bool := L.any bigS
theorem muchB_in {m n : Int} {es : List Ed} (h : MuchB m n es = false) : (es.length : Int) ≤ m ∧ ∀ e ∈ es, (e.t.size : Int) ≤ n := by
 unfold MuchB at h
 split at h
 ·cases h
 ·exact ⟨by omega, muchE_no es n h⟩
theorem bigS_no {x : Ds} (h : bigS x = false) : x.es.length ≤ 6 ∧ (∀ e ∈ x.es, e.t.size ≤ 40) ∧ x.t.size ≤ 40 ∧ x.sl.length ≤ 6 := by
 unfold bigS at h
 rw [Bool.or_eq_false_iff, Bool.or_eq_false_iff, decide_eq_false_iff_not, decide_eq_false_iff_not] at h
 obtain ⟨⟨h1, h2⟩, h3⟩ := h
 obtain ⟨h4, h5⟩ := muchB_in h1
 exact ⟨by omega, fun e he => by have := h5 e he; omega, by omega, by omega⟩
theorem muchS_no {L : List Ds} (h : muchS L = false) : ∀ x ∈ L, x.es.length ≤ 6 ∧ (∀ e ∈ x.es, e.t.size ≤ 40) ∧ x.t.size ≤ 40 ∧ x.sl.length ≤ 6 := by
 intro x hx
 refine bigS_no ?_
 unfold muchS at h
 cases hb : bigS x with
 | false => rfl
 | true => rw [List.any_eq_true.2 ⟨x, hx, hb⟩] at h; cases h
end Go.Gim
namespace Go.Proofs.YthlmgoagnfkhdaaGreat
open Go.ChangeShapes Go.WideShapes Go.ChangeAt Go.RowKit Go.Gim
def edN (n : Nat) (e : Ed) : Ed := ⟨(lowN e.a (n + 2) : Nat), ((lowN e.a (n + 2) : Nat) : Int) + (lowN e.b 4 : Nat), e.t⟩
def editsN (n : Nat) (es : List Ed) : List Ed := es.map (edN n)
theorem editsN_len (n : Nat) (es : List Ed) : (editsN n es).length = es.length := List.length_map _
theorem editsN_snoc (n : Nat) {es : List Ed} {k : Nat} {x : Ed} (hx : es[k]? = some x) : editsN n (es.take (k + 1)) = editsN n (es.take k) ++ [edN n x] := by
 obtain ⟨hk, rfl⟩ := List.getElem?_eq_some_iff.1 hx
 unfold editsN
 rw [List.take_succ_eq_append_getElem hk, List.map_append]; rfl
theorem editsN_t {n c : Nat} {es : List Ed} (h : ∀ e ∈ es, e.t.size ≤ c) : ∀ e ∈ editsN n es, e.t.size ≤ c := by
 intro e he
 obtain ⟨x, hx, rfl⟩ := List.mem_map.1 he
 exact h x hx
def pkN (n : Nat) (x : Int × Int) : Int × Int := ((lowN x.1 (n + 1) : Nat), (lowN x.2 (n + 1) : Nat))
def picksN (n : Nat) (l : List (Int × Int)) : List (Int × Int) := l.map (pkN n)
theorem picksN_len (n : Nat) (l : List (Int × Int)) : (picksN n l).length = l.length := List.length_map _
theorem picksN_snoc (n : Nat) {l : List (Int × Int)} {k : Nat} {x : Int × Int} (hx : l[k]? = some x) : picksN n (l.take (k + 1)) = picksN n (l.take k) ++ [pkN n x] := by
 obtain ⟨hk, rfl⟩ := List.getElem?_eq_some_iff.1 hx
 unfold picksN
 rw [List.take_succ_eq_append_getElem hk, List.map_append]; rfl
theorem picksN_in (n : Nat) (l : List (Int × Int)) : ∀ x ∈ picksN n l, 0 ≤ x.1 ∧ x.1 ≤ n ∧ 0 ≤ x.2 ∧ x.2 ≤ n := by
 intro x hx
 obtain ⟨y, hy, rfl⟩ := List.mem_map.1 hx
 have h1 := lowN_lt y.1 (n + 1) (by omega)
 have h2 := lowN_lt y.2 (n + 1) (by omega)
 unfold pkN
 simp only
 omega
theorem open_twos_in {H : Type} {enc : TypeId × Value → H} {P : Program} {W : World} {t e i : TypeId} {cs : List Value} {fuel : Nat} {y : DataW H × List MemPlace} (ht : P.underlying t = some (.slice e)) (he : P.underlying e = some (.array 2 i)) (hc : P.cellsOf e = 2)
  (hi : P.underlying i = some (.int .i64)) (hci : P.cellsOf i = 1)
  (hf : DataW.trod enc P W 0 (fun _ => true) true fuel t cs = some y) :
  ∃ (ao : Option Addr) (cap : Nat) (L : List (Int × Int)), cs = [.slice ao L.length cap] ∧ Reads W 2 ao L.length (prCells L) ∧ L.length ≤ maxLen := by
 obtain ⟨ao, cap, els, rfl, hr, hm, hel⟩ := open_slice_in (enc := enc) 2 ht hc (by omega) hf
 obtain ⟨L, rfl, hq⟩ := list_choose prCells1 (fun _ => True) els (fun el h => by
  obtain ⟨hl, n, x, hx⟩ := hel el h
  obtain ⟨xs, m, _, _, _, hxl, g⟩ := DataW.trod_array he hx
  obtain ⟨c0, c1, hcs⟩ := Go.Joins.array2 (cs := el.toArray) (by simpa using hl)
  have hcs : el = [c0, c1] := by simpa using congrArg Array.toList hcs
  subst hcs
  match xs, hxl with
  | [y0, y1], _ =>
   have g0 := g 0 (by omega)
   have g1 := g 1 (by omega)
   rw [hci] at g0 g1
   simp at g0 g1
   obtain ⟨a0, e0, _, l0⟩ := DataW.trod_int hi g0
   obtain ⟨a1, e1, _, l1⟩ := DataW.trod_int hi g1
   simp at e0 e1
   subst e0 e1
   exact ⟨⟨a0, a1⟩, rfl, trivial⟩)
 rw [show (L.map prCells1).flatten = prCells L from rfl, List.length_map] at hr
 rw [List.length_map] at hm ⊢
 exact ⟨ao, cap, L, rfl, hr, hm⟩
theorem open_deedsS {H : Type} {enc : TypeId × Value → H} {P : Program} {W : World} {b0 : Nat} {t e et ee sp st se si : TypeId} {f0 f1 f2 f3 f4 f5 f6 q0 q1 g0 g1 : Field} {v : Value} {d : DataW H} {ps : List MemPlace} (ht : P.underlying t = some (.slice e)) (he : P.underlying e = some (.struct #[f0, f1, f2, f3, f4, f5, f6])) (hone : Go.Deep.oneCellFields P #[f0, f1, f2, f3, f4, f5, f6] = true) (hc : P.cellsOf e = 7)
  (u0 : P.underlying f0.type = some (.int .i64)) (u1 : P.underlying f1.type = some (.int .i64)) (u2 : P.underlying f2.type = some (.int .i64)) (u3 : P.underlying f3.type = some .bool) (u4 : P.underlying f4.type = some .string) (u5 : f5.type = et) (u6 : f6.type = st)
  (het : P.underlying et = some (.slice ee)) (hee : P.underlying ee = some (.struct #[q0, q1])) (hce : P.cellsOf ee = 3)
  (hs : P.underlying sp = some (.struct #[g0, g1])) (t0 : q0.type = sp ∧ q0.offset = 0 ∧ P.cellsOf sp = 2) (o1 : q1.offset = 2 ∧ P.cellsOf q1.type = 1) (p0 : g0.offset = 0 ∧ P.cellsOf g0.type = 1) (p1 : g1.offset = 1 ∧ P.cellsOf g1.type = 1)
  (v0 : P.underlying g0.type = some (.int .i64)) (v1 : P.underlying g1.type = some (.int .i64)) (v2 : P.underlying q1.type = some .string)
  (hst : P.underlying st = some (.slice se)) (hse : P.underlying se = some (.array 2 si)) (hcs : P.cellsOf se = 2) (hsi : P.underlying si = some (.int .i64)) (hcsi : P.cellsOf si = 1)
  (hval : Value.okWide P W .any b0 t v) (hd : DataW.Trod enc P W 0 (fun _ => true) true t v d ps) :
  ∃ (ao : Option Addr) (cap : Nat) (L : List Ds), v = .slice ao L.length cap ∧ Reads W 7 ao L.length (dsE.cells L) ∧ L.length ≤ maxLen ∧ ∀ x ∈ L, DsOk W x := by
 obtain ⟨ao, cap, els, rfl, hr, hm, hel⟩ := open_slice_reads (enc := enc) 7 ht hc (by omega) hval hd
 obtain ⟨L, rfl, hq⟩ := list_choose dsE.f (DsOk W) els (fun el h => by
  obtain ⟨hl, n, x, hx⟩ := hel el h
  obtain ⟨xs, m, _, _, _, hlen, hfs⟩ := DataW.trod_struct he hx
  obtain ⟨c0, c1, c2, c3, c4, c5, c6, hcs7⟩ := array7 (cs := el.toArray) (by simpa using hl)
  have hcs7 : el = [c0, c1, c2, c3, c4, c5, c6] := by simpa using congrArg Array.toList hcs7
  subst hcs7
  match xs, hlen with
  | [y0, y1, y2, y3, y4, y5, y6], _ =>
   obtain ⟨o0, k0⟩ := Go.Deep.hone_of hone 0 f0 rfl
   obtain ⟨o1', k1⟩ := Go.Deep.hone_of hone 1 f1 rfl
   obtain ⟨o2, k2⟩ := Go.Deep.hone_of hone 2 f2 rfl
   obtain ⟨o3, k3⟩ := Go.Deep.hone_of hone 3 f3 rfl
   obtain ⟨o4, k4⟩ := Go.Deep.hone_of hone 4 f4 rfl
   obtain ⟨o5, k5⟩ := Go.Deep.hone_of hone 5 f5 rfl
   obtain ⟨o6, k6⟩ := Go.Deep.hone_of hone 6 f6 rfl
   have g0' := hfs 0 f0 rfl
   have g1' := hfs 1 f1 rfl
   have g2' := hfs 2 f2 rfl
   have g3' := hfs 3 f3 rfl
   have g4' := hfs 4 f4 rfl
   have g5' := hfs 5 f5 rfl
   have g6' := hfs 6 f6 rfl
   rw [o0, k0] at g0'
   rw [o1', k1] at g1'
   rw [o2, k2] at g2'
   rw [o3, k3] at g3'
   rw [o4, k4] at g4'
   rw [o5, k5, u5] at g5'
   rw [o6, k6, u6] at g6'
   obtain ⟨a0, e0, _, l0⟩ := DataW.trod_int u0 g0'
   obtain ⟨a1, e1, _, l1⟩ := DataW.trod_int u1 g1'
   obtain ⟨a2, e2, _, l2⟩ := DataW.trod_int u2 g2'
   obtain ⟨a3, e3, _⟩ := DataW.trod_bool u3 g3'
   obtain ⟨a4, e4, _, l4⟩ := DataW.trod_string u4 g4'
   obtain ⟨ao5, cap5, es, e5, r5, m5, q5⟩ := open_edits_in het hee hce hs t0 o1 p0 p1 v0 v1 v2 g5'
   obtain ⟨ao6, cap6, sl, e6, r6, m6⟩ := open_twos_in hst hse hcs hsi hcsi g6'
   simp at e0 e1 e2 e3 e4 e5 e6
   subst e0 e1 e2 e3 e4 e5 e6
   exact ⟨⟨a0, a1, a2, a3, a4, ao5, cap5, es, ao6, cap6, sl⟩, rfl, ⟨r5, m5, q5, l1, l2, r6, m6, l4⟩⟩)
 rw [show (L.map dsE.f).flatten = dsE.cells L from rfl, List.length_map] at hr
 rw [List.length_map] at hm ⊢
 exact ⟨ao, cap, L, rfl, hr, hm, hq⟩
theorem muchS_any (many : Nat) (ao : Option Addr) (cap : Nat) (L : List Ds) (w : World) (hr : Reads w 7 ao L.length (dsE.cells L)) (hok : ∀ x ∈ L, DsOk w x) (hn : L.length ≤ maxLen) (hy : many ≤ 100) :
  Calls Tryz.prog 33 #[.int .i64 many, .slice ao L.length cap] w fun e w' => e = .returned (.bool (if many < L.length then true else muchS L)) ∧ w' = w := by
 unfold maxLen at hn
 by_cases hmm : many < L.length
 ·rw [if_pos hmm]
  have hm1 : (many : Int) < (L.length : Int) := by omega
  clear hr hok
  go_enter Tryz.func33, Tryz.ntmps33
  go_wp2_with fail
  go_ret
  exact ⟨rfl, rfl⟩
 ·rw [if_neg hmm]
  have hm1 : ¬ (many : Int) < (L.length : Int) := by omega
  have HX := Lib.hid (show muchS (L.drop 0) = muchS L from rfl)
  generalize muchS L = X at *
  have Hr := Lib.hid hr
  have Hok := Lib.hid hok
  clear hr hok
  go_enter Tryz.func33, Tryz.ntmps33
  go_wp2_with fail
  go_loop [5] (fun s2 => ∃ (k : Nat), k ≤ L.length ∧ s2 = .int .i64 k ∧ Hid (muchS (L.drop k) = X)) (fun s2 => L.length - (intOf s2).toNat)
  case atStart => exact ⟨0, by omega, rfl, HX⟩
  case round =>
   obtain ⟨k, hk, rfl, HM⟩ := hrel
   by_cases hlt : k < L.length
   ·have hlt' : (k : Int) < (L.length : Int) := by omega
    have hk0 : (0 : Int) ≤ (k : Int) := by omega
    obtain ⟨b, off, rfl⟩ := Hr.out.some (by omega)
    obtain ⟨_, hc4, hc5, hc6⟩ := reads_ds Hr.out (List.getElem?_eq_getElem hlt)
    have hd := List.drop_eq_getElem_cons hlt
    have hM := HM.out
    rw [hd] at hM
    have ho := Hok.out _ (List.getElem_mem hlt)
    generalize L[k] = y at *
    have HC := Lib.hid (MuchE_any 6 40 y.ao y.cap y.es w ho.rd ho.len (by omega) (by omega) (by omega))
    have htl := ho.tl
    have hsl := ho.slen
    unfold maxLen at htl hsl
    unfold muchS at hM
    rw [List.any_cons] at hM
    unfold bigS at hM
    generalize y.es.length = n at *
    generalize y.sl.length = m at *
    obtain ⟨z, hzz⟩ : ∃ z, y.t.size = z := ⟨_, rfl⟩
    rw [hzz] at hM htl
    cases hB : MuchB 6 40 y.es with
    | true =>
     rw [hB] at HC hM
     have hM2 := Lib.hid (show true = X by simpa using hM)
     clear hM hd ho hB
     go_wp2_with fail
     refine HC.out.mono ?_
     rintro e w1 ⟨rfl, rfl⟩
     go_wp2_with fail
     go_ret
     exact ⟨ret_bool hM2.out, rfl⟩
    | false =>
     rw [hB] at HC hM
     by_cases hz : 40 < z
     ·have hM2 := Lib.hid (show true = X by rw [← hM, decide_eq_true hz]; rfl)
      have hz1 : (40 : Int) < (y.t.size : Int) := by omega
      have hz3 : decide ((40 : Int) < (y.t.size : Int)) = true := decide_eq_true hz1
      clear hM hd ho hB hz hzz
      go_wp2_with fail
      refine HC.out.mono ?_
      rintro e w1 ⟨rfl, rfl⟩
      go_wp2_with fail
      go_ret
      exact ⟨ret_bool hM2.out, rfl⟩
     ·have hz1 : ¬ (40 : Int) < (y.t.size : Int) := by omega
      have hz3 : decide ((40 : Int) < (y.t.size : Int)) = false := decide_eq_false hz1
      rw [decide_eq_false hz] at hM
      by_cases hy2 : 6 < m
      ·have hM2 := Lib.hid (show true = X by rw [← hM, decide_eq_true hy2]; rfl)
       have hy1 : (6 : Int) < (m : Int) := by omega
       have hy3 : decide ((6 : Int) < (m : Int)) = true := decide_eq_true hy1
       clear hM hd ho hB hz hy2 hzz
       go_wp2_with fail
       refine HC.out.mono ?_
       rintro e w1 ⟨rfl, rfl⟩
       go_wp2_with fail
       go_ret
       exact ⟨ret_bool hM2.out, rfl⟩
      ·have hy1 : ¬ (6 : Int) < (m : Int) := by omega
       have hy3 : decide ((6 : Int) < (m : Int)) = false := decide_eq_false hy1
       rw [decide_eq_false hy2] at hM
       have hM2 := Lib.hid (show muchS (L.drop (k + 1)) = X from hM)
       clear hM hd ho hB hz hy2 hzz
       go_wp2_with fail
       refine HC.out.mono ?_
       rintro e w1 ⟨rfl, rfl⟩
       go_wp2_with fail
       go_round
       case rel => exact ⟨k + 1, by omega, by go_num, hM2⟩
       case measure => simp [intOf]; omega
   ·have hlt' : ¬ (k : Int) < (L.length : Int) := by omega
    have hM := HM.out
    rw [List.drop_of_length_le (by omega)] at hM
    have HM2 := Lib.hid hM
    clear hM
    go_wp2_with fail
    go_ret
    exact ⟨ret_bool HM2.out, rfl⟩
theorem editsN_any (n : Nat) (ao : Option Addr) (cap : Nat) (es : List Ed) (w : World) (hr : Reads w 3 ao es.length (edE.cells es)) (hn : es.length ≤ 1000) (hn2 : n ≤ 900000) :
  Calls Tryz.prog 34 #[.int .i64 n, .slice ao es.length cap] w (edE.Out 59 (editsN n es) w) := by
 have hl1 : maxLen = 9223372036854775807 := rfl
 obtain ⟨N, hN⟩ : ∃ N, N = es.length := ⟨_, rfl⟩
 have HN := Lib.hid hN
 have Hr := Lib.hid hr
 unfold Enc.Out
 rw [editsN_len, ← hN]
 rw [← hN] at hn
 clear hr hN
 go_enter Tryz.func34, Tryz.ntmps34
 go_wp2_with fail
 go_loopw [5, 6] (fun v i wr => ∃ k : Nat, k ≤ N ∧ i = .int .i64 k ∧ Hid (wr.ownsRow w.heap.size 59 3 v k (edE.cells (editsN n (es.take k)))) ∧ Ext w wr) (fun _ i _ => N - (intOf i).toNat)
 case atStart => exact ⟨0, by omega, rfl, Lib.hid (World.ownsRow_nil _ _ _ _), Mod.refl _ _⟩
 case round =>
  obtain ⟨k, hk, rfl, HO, hx⟩ := hrel
  by_cases hlt : k < N
  ·have hlt' : (k : Int) < (N : Int) := by omega
   have hk0 : (0 : Int) ≤ (k : Int) := by omega
   have hlk : k < es.length := by rw [← HN.out]; exact hlt
   obtain ⟨b, off, rfl⟩ := Hr.out.some (by rw [← HN.out]; omega)
   obtain ⟨q0, q1, q2⟩ := reads_ed (Hr.out.mod hx (fun _ _ f => f)) (List.getElem?_eq_getElem hlk)
   have Hst := Lib.hid (editsN_snoc n (List.getElem?_eq_getElem hlk))
   generalize es[k] = x at *
   obtain ⟨p, q, t⟩ := x
   unfold edN at Hst
   simp only at q0 q1 q2 Hst
   have BA := lowN_lt p (n + 2) (by omega)
   have BB := lowN_lt q 4 (by omega)
   have L1 := fun v => lowC p (n + 2) ((n : Int) + 2) (by omega) (by omega) (by omega) v
   have L2 := Lib.hid (fun v => lowC q 4 4 rfl (by omega) (by omega) v)
   generalize lowN p (n + 2) = A at *
   generalize lowN q 4 = B at *
   obtain ⟨va, vc, hva, _, _⟩ := ownsRow_shape HO.out
   subst hva
   have hbl := World.block_lt_of_cell? wr _ q0
   go_wp2_with fail
   refine (L1 _).mono ?_
   rintro e wz ⟨rfl, rfl⟩
   go_upto_region 6 with fail
   refine wp_region_ext_tail1 18 (.slice va k vc) _ rfl rfl rfl (by kernel_rfl) (by kernel_rfl) (fun _ _ _ _ h => h) ?_
   simp only [List.take_succ_cons, List.take_zero, List.drop_succ_cons, List.drop_zero, Act.put, List.setIfInBounds_toArray, List.set_cons_zero, List.set_cons_succ, Nat.reduceSub]
   repeat (go_big_quiet_step (exact Calls.ext_of_same (L2.out _)))
   refine wpQuiet_nil ?_
   intro we hxe
   have hxm := hx.ext_trans hxe
   have Hom := Lib.hid (ownsRow_mod HO.out hxe (fun _ _ f => f))
   clear q0 q1 q2 L1 L2 hbl
   go_wp2_with (at_builtin; refine wpList_append_reads rfl _ _ 35 rfl w.heap.size 59 _ 3 32 Tryz.info59 Tryz.underlying35 rfl (by decide) _ k _ rfl (Hom.out.alloc _) _ 1 1 [.int .i64 (A : Nat), .int .i64 ((A : Int) + B), .string t] rfl ?hrd (edE.one ⟨(A : Nat), (A : Int) + B, t⟩) (by omega) (by omega) ?hbs ?_)
   case hrd =>
    have := Reads.new we 59 #[.int .i64 (A : Nat), .int .i64 ((A : Int) + B), .string t] 3 1 rfl
    simpa using this
   case hbs => have := hxm.size; simp at this ⊢; omega
   intro v' w7 hown hm7 hbk
   have hx7 := (hxm.alloc (.cells #[.int .i64 (A : Nat), .int .i64 ((A : Int) + B), .string t] 59)).trans hm7 (fun i hi e => by have h1 := (Hom.out.lt i e).1; omega)
   have Hown := Lib.hid hown
   clear hm7 hbk hown hxm
   go_wp2_with fail
   go_roundw
   case rel => exact ⟨k + 1, by omega, by go_num, Lib.hid (by rw [Hst.out, edE.cells_append]; exact Hown.out), hx7⟩
   case measure => simp [intOf]; omega
  ·have hlt' : ¬ (k : Int) < (N : Int) := by omega
   obtain rfl : k = N := by omega
   have hO := HO.out
   rw [List.take_of_length_le (by rw [← HN.out]; exact Nat.le_refl _)] at hO
   have HO2 := Lib.hid hO
   clear hO HO
   go_wp2_with fail
   go_ret
   exact ⟨_, rfl, HO2.out, hx⟩
theorem picksN_any (n : Nat) (ao : Option Addr) (cap : Nat) (l : List (Int × Int)) (w : World) (hr : Reads w 2 ao l.length (prCells l)) (hn : l.length ≤ 1000) (hn2 : n ≤ 900000) :
  Calls Tryz.prog 15 #[.int .i64 n, .slice ao l.length cap] w fun e w' => ∃ v, e = .returned v ∧ w'.ownsRow w.heap.size 47 2 v l.length (prCells (picksN n l)) ∧ Ext w w' := by
 have hl1 : maxLen = 9223372036854775807 := rfl
 obtain ⟨N, hN⟩ : ∃ N, N = l.length := ⟨_, rfl⟩
 have HN := Lib.hid hN
 have Hr := Lib.hid hr
 rw [← hN]
 rw [← hN] at hn
 clear hr hN
 go_enter Tryz.func15, Tryz.ntmps15
 go_wp2_with fail
 go_loopw [5, 6] (fun v i wr => ∃ k : Nat, k ≤ N ∧ i = .int .i64 k ∧ Hid (wr.ownsRow w.heap.size 47 2 v k (prCells (picksN n (l.take k)))) ∧ Ext w wr) (fun _ i _ => N - (intOf i).toNat)
 case atStart => exact ⟨0, by omega, rfl, Lib.hid (World.ownsRow_nil _ _ _ _), Mod.refl _ _⟩
 case round =>
  obtain ⟨k, hk, rfl, HO, hx⟩ := hrel
  by_cases hlt : k < N
  ·have hlt' : (k : Int) < (N : Int) := by omega
   have hk0 : (0 : Int) ≤ (k : Int) := by omega
   have hlk : k < l.length := by rw [← HN.out]; exact hlt
   obtain ⟨b, off, rfl⟩ := Hr.out.some (by rw [← HN.out]; omega)
   obtain ⟨q0, q1⟩ := reads_pair (Hr.out.mod hx (fun _ _ f => f)) (List.getElem?_eq_getElem hlk)
   have Hst := Lib.hid (picksN_snoc n (List.getElem?_eq_getElem hlk))
   generalize l[k] = x at *
   obtain ⟨p, q⟩ := x
   unfold pkN at Hst
   simp only at q0 q1 Hst
   have BA := lowN_lt p (n + 1) (by omega)
   have BB := lowN_lt q (n + 1) (by omega)
   have L1 := Lib.hid (fun v => lowC p (n + 1) ((n : Int) + 1) (by omega) (by omega) (by omega) v)
   have L2 := Lib.hid (fun v => lowC q (n + 1) ((n : Int) + 1) (by omega) (by omega) (by omega) v)
   have s1 : IntKind.i64.wrap ((n : Int) + 1) = (n : Int) + 1 := IntWalk.i64_in _ (by omega)
   generalize lowN p (n + 1) = A at *
   generalize lowN q (n + 1) = B at *
   obtain ⟨va, vc, hva, _, _⟩ := ownsRow_shape HO.out
   subst hva
   have hbl := World.block_lt_of_cell? wr _ q0
   go_upto_region 5 with fail
   refine wp_region_ext_tail1 18 (.slice va k vc) _ rfl rfl rfl (by kernel_rfl) (by kernel_rfl) (fun _ _ _ _ h => h) ?_
   simp only [List.take_succ_cons, List.take_zero, List.drop_succ_cons, List.drop_zero, Act.put, List.setIfInBounds_toArray, List.set_cons_zero, List.set_cons_succ, Nat.reduceSub]
   repeat (go_big_quiet_step (first | (with_reducible exact Calls.ext_of_same (L1.out _)) | (with_reducible exact Calls.ext_of_same (L2.out _))))
   refine wpQuiet_nil ?_
   intro we hxe
   have hxm := hx.ext_trans hxe
   have Hom := Lib.hid (ownsRow_mod HO.out hxe (fun _ _ f => f))
   clear q0 q1 L1 L2 hbl s1
   go_wp2_with (at_builtin; refine wpList_append_reads rfl _ _ 32 rfl w.heap.size 47 _ 2 16 Tryz.info47 Tryz.underlying32 rfl (by decide) _ k _ rfl (Hom.out.alloc _) _ 1 1 [.int .i64 (A : Nat), .int .i64 (B : Nat)] rfl ?hrd (prCells_one [((A : Int), (B : Int))]) (by omega) (by omega) ?hbs ?_)
   case hrd =>
    have := Reads.new we 47 #[.int .i64 (A : Nat), .int .i64 (B : Nat)] 2 1 rfl
    simpa using this
   case hbs => have := hxm.size; simp at this ⊢; omega
   intro v' w7 hown hm7 hbk
   have hx7 := (hxm.alloc (.cells #[.int .i64 (A : Nat), .int .i64 (B : Nat)] 47)).trans hm7 (fun i hi e => by have h1 := (Hom.out.lt i e).1; omega)
   have Hown := Lib.hid hown
   clear hm7 hbk hown hxm
   go_wp2_with fail
   go_roundw
   case rel => exact ⟨k + 1, by omega, by go_num, Lib.hid (by rw [Hst.out, prCells_append]; exact Hown.out), hx7⟩
   case measure => simp [intOf]; omega
  ·have hlt' : ¬ (k : Int) < (N : Int) := by omega
   obtain rfl : k = N := by omega
   have hO := HO.out
   rw [List.take_of_length_le (by rw [← HN.out]; exact Nat.le_refl _)] at hO
   have HO2 := Lib.hid hO
   clear hO HO
   go_wp2_with fail
   go_ret
   exact ⟨_, rfl, HO2.out, hx⟩
end Go.Proofs.YthlmgoagnfkhdaaGreat
namespace Go.Gim
def backC (s : ByteArray) (es : List Ed) : List Ed := if mayE s.size es = 0 then backE s es else []
def textC (s : ByteArray) (es : List Ed) : ByteArray := if mayE s.size es = 0 then bs (applyL s.data.toList es) else s
def tabC (s : ByteArray) (es : List Ed) (L : Tb) : Tb := if mayE s.size es = 0 then moveT es L else L
def selC (s : ByteArray) (es : List Ed) (q : List (Int × Int)) : List (Int × Int) := if mayE s.size es = 0 then selsM es q else q
theorem textC_size {s : ByteArray} {es : List Ed} {c : Nat} (ht : ∀ e ∈ es, e.t.size ≤ c) : (textC s es).size ≤ s.size + es.length * c := by
 unfold textC
 split
 ·rename_i h
  obtain ⟨h1, h2⟩ := mayE_zero h
  have h3 := applyL_len (s := s.data.toList) h1
  have h4 := grownE_most es s.size (fun e he => ⟨(rangedE_mem h1 e he).2.1, ht e he⟩)
  have h5 : (bs (applyL s.data.toList es)).size = (applyL s.data.toList es).length := rfl
  have h6 : s.data.toList.length = s.size := rfl
  rw [h5]
  rw [h6] at h3
  omega
 ·omega
theorem textC_len {s : ByteArray} {es : List Ed} (h : mayE s.size es = 0) : ((textC s es).size : Int) = grownE s.size es ∧ (textC s es).size ≤ 65536 := by
 obtain ⟨h1, h2⟩ := mayE_zero h
 have h3 := applyL_len (s := s.data.toList) h1
 have h5 : (bs (applyL s.data.toList es)).size = (applyL s.data.toList es).length := rfl
 have h6 : s.data.toList.length = s.size := rfl
 unfold textC
 rw [if_pos h, h5]
 rw [h6] at h3
 omega
theorem selC_in {s : ByteArray} {es : List Ed} {q : List (Int × Int)} (hq : InT s.size q) : InT (textC s es).size (selC s es q) := by
 by_cases h : mayE s.size es = 0
 ·rw [(textC_len h).1]
  unfold selC
  rw [if_pos h]
  exact selsM_in (mayE_zero h).1 hq
 ·unfold textC selC
  rw [if_neg h, if_neg h]
  exact hq
theorem selC_len (s : ByteArray) (es : List Ed) (q : List (Int × Int)) : (selC s es q).length ≤ q.length := by
 unfold selC
 split
 ·exact selsM_len es q
 ·exact Nat.le_refl _
theorem selC_pos (s : ByteArray) (es : List Ed) {q : List (Int × Int)} (h : 0 < q.length) : 0 < (selC s es q).length := by
 unfold selC
 split
 ·exact selsM_pos es h
 ·exact h
theorem tabC_tok {s : ByteArray} {es : List Ed} {L : Tb} {last Bd : Int} (hs : s.size ≤ 65536) (hT : Tok L last Bd) (hn : es.length ≤ 19) (ht : ∀ e ∈ es, e.t.size ≤ 100000) (hB : 65536 ≤ Bd) : Tok (tabC s es L) last (Bd + 2000000) := by
 unfold tabC
 split
 ·rename_i h
  obtain ⟨h1, _⟩ := mayE_zero h
  have h2 := moveD_ok hT hn ht hB
  unfold moveD at h2
  rw [if_pos (rangedE_more h1 (show (s.size : Int) ≤ 65536 by omega))] at h2
  exact h2.1
 ·exact hT.mono (by omega)
theorem InT.near {n : Int} {q : List (Int × Int)} (h : InT n q) (hn : n ≤ 65536) : ∀ x ∈ q, 0 ≤ x.1 ∧ x.1 ≤ 900000000 ∧ 0 ≤ x.2 ∧ x.2 ≤ 900000000 := fun x hx => by have := h x hx; omega
end Go.Gim
namespace Go.Proofs.YthlmgoagnfkhdaaGreat
open Go.RowKit Go.Gim
theorem sdo_all (S : Sh) (Bd : Int) (ao : Option Addr) (cap : Nat) (es : List Ed) (w : World) (h : SheetAt w S) (hs : S.s.size ≤ 65536) (he : Reads w 3 ao es.length (edE.cells es)) (hn : es.length ≤ 19) (ht : ∀ e ∈ es, e.t.size ≤ 100000)
  (hfar : 0 < es.length → ∀ a, ao = some a → ¬ ShS S a.block) (hq0 : 0 < S.q.length) (hq1 : S.q.length ≤ 19) (hq : InT S.s.size S.q) (hT : Tok S.L S.last Bd) (hB : 65536 ≤ Bd) (hB2 : Bd ≤ 900000000) :
  Calls Tryz.prog 17 #[.pointer (some ⟨S.sb, 0, none⟩), .slice ao es.length cap] w fun e w' => ∃ (S' : Sh) (a : Option Addr) (c : Nat), e = .returned (.tuple #[.slice a (backC S.s es).length c, .int .i64 (mayE S.s.size es)]) ∧
   w'.ownsRow w.heap.size 59 3 (.slice a (backC S.s es).length c) (backC S.s es).length (edE.cells (backC S.s es)) ∧ (∀ ad, a = some ad → ¬ ShS S' ad.block) ∧ ShDone S S' w w' ∧ S'.s = textC S.s es ∧ S'.L = tabC S.s es S.L ∧ S'.last = S.last ∧ S'.q = selC S.s es S.q := by
 by_cases hm : mayE S.s.size es = 0
 ·unfold backC textC tabC selC
  rw [if_pos hm, if_pos hm, if_pos hm, if_pos hm, hm]
  refine (sdo_yes S Bd ao cap es w h hs he hn ht hm hfar hq0 hq1 (hq.near (by omega)) hT hB hB2).mono ?_
  rintro e w' ⟨S', a, c, rfl, ho, hf, hd, h1, h2, h3, h4⟩
  exact ⟨S', a, c, rfl, ho, hf, hd, by rw [← h1, bs_of], h2, h3, h4⟩
 ·unfold backC textC tabC selC
  rw [if_neg hm, if_neg hm, if_neg hm, if_neg hm]
  refine (sdo_no S ao cap es w h hs he hn ht hm).mono ?_
  rintro e w' ⟨rfl, hx⟩
  exact ⟨S, none, 0, rfl, World.ownsRow_nil _ _ _ _, fun ad ha => (by cases ha), ShDone.after hx (ShDone.refl (h.ext hx)), rfl, rfl, rfl, rfl⟩
structure Both (w0 w : World) (S : Sh) (p : Pp) (Bd : Int) (m : Nat) : Prop where
 sh : SheetAt w S
 pap : PapAt w w0.heap.size p S.s S.q S.L S.last
 own : ∀ k, ShS S k → w0.heap.size ≤ k
 tok : Tok S.L S.last Bd
 bd : 65536 ≤ Bd
 q0 : 0 < S.q.length
 q1 : S.q.length ≤ m
 inq : InT S.s.size S.q
 ext : Ext w0 w
theorem Both.on {w0 w w' : World} {S : Sh} {p : Pp} {Bd : Int} {m : Nat} (h : Both w0 w S p Bd m) (hx : Ext w w') : Both w0 w' S p Bd m :=
 ⟨h.sh.ext hx, h.pap.ext hx, h.own, h.tok, h.bd, h.q0, h.q1, h.inq, h.ext.ext_trans hx⟩
theorem Both.more {w0 w : World} {S : Sh} {p : Pp} {Bd Bd' : Int} {m : Nat} (h : Both w0 w S p Bd m) (hb : Bd ≤ Bd') : Both w0 w S p Bd' m :=
 ⟨h.sh, h.pap, h.own, h.tok.mono hb, by have := h.bd; omega, h.q0, h.q1, h.inq, h.ext⟩
theorem Both.half {w0 w w1 : World} {S S' : Sh} {p : Pp} {Bd : Int} {m : Nat} (h : Both w0 w S p Bd m) (hd : ShDone S S' w w1) :
  PapAt w1 w0.heap.size p S.s S.q S.L S.last ∧ (∀ k, ShS S' k → w0.heap.size ≤ k) ∧ Ext w0 w1 := by
 refine ⟨h.pap.sheet h.sh hd.mod, fun k hk => ?_, h.ext.trans hd.mod (fun i hi e => by have := h.own i e; omega)⟩
 by_cases hl : k < w.heap.size
 ·exact h.own k (hd.grew k hl hk)
 ·have := h.ext.size; omega
theorem Both.whole {w0 w w1 w2 : World} {S S' : Sh} {p p' : Pp} {Bd Bd' : Int} {m : Nat} (h : Both w0 w S p Bd m) (hd : ShDone S S' w w1) (hp : PapAt w2 w0.heap.size p' S'.s S'.q S'.L S'.last) (hm : Mod (PapS w0.heap.size w1) w1 w2) (hT : Tok S'.L S'.last Bd') (hb : 65536 ≤ Bd') (q0 : 0 < S'.q.length) (q1 : S'.q.length ≤ m) (hq : InT S'.s.size S'.q) :
  Both w0 w2 S' p' Bd' m := by
 obtain ⟨_, h2, h3⟩ := h.half hd
 exact ⟨hd.at_.pap hm, hp, h2, hT, hb, q0, q1, hq, h3.trans hm (fun i hi e => by have := e.1; omega)⟩
theorem Both.done {w0 w w1 w2 : World} {S S' : Sh} {p p' : Pp} {Bd : Int} {m c : Nat} {es : List Ed} (h : Both w0 w S p Bd m) (hs : S.s.size ≤ 65536) (hn : es.length ≤ 19) (ht : ∀ e ∈ es, e.t.size ≤ c) (hc : c ≤ 100000) (hd : ShDone S S' w w1) (e1 : S'.s = textC S.s es) (e2 : S'.L = tabC S.s es S.L) (e3 : S'.last = S.last) (e4 : S'.q = selC S.s es S.q)
  (hp : PapAt w2 w0.heap.size p' (textC S.s es) (selC S.s es S.q) (tabC S.s es S.L) S.last) (hm : Mod (PapS w0.heap.size w1) w1 w2) : Both w0 w2 S' p' (Bd + 2000000) m ∧ S'.s.size ≤ S.s.size + es.length * c := by
 refine ⟨h.whole hd (by rw [e1, e2, e3, e4]; exact hp) hm ?_ (by have := h.bd; omega) ?_ ?_ ?_, by rw [e1]; exact textC_size ht⟩
 ·rw [e2, e3]; exact tabC_tok hs h.tok hn (fun e he => Nat.le_trans (ht e he) hc) h.bd
 ·rw [e4]; exact selC_pos _ _ h.q0
 ·rw [e4]; exact Nat.le_trans (selC_len _ _ _) h.q1
 ·rw [e1, e4]; exact selC_in h.inq
end Go.Proofs.YthlmgoagnfkhdaaGreat
namespace Go.Gim
theorem backC_len {s : ByteArray} {es : List Ed} (hs : s.size ≤ 65536) (ht : ∀ e ∈ es, e.t.size ≤ 100000) : (backC s es).length ≤ es.length := by
 unfold backC
 split
 ·rename_i h
  obtain ⟨h1, _⟩ := mayE_zero h
  have hok : ∀ e ∈ sorted lessE es, EdOk e := fun e he => by
   have he := (sorted_mem lessE es e).1 he
   obtain ⟨h2, h3, h4⟩ := rangedE_mem h1 e he
   exact ⟨h2, h3, by omega, ht e he⟩
  have := (backT_bd (s := s) hok (sorted lessE es).length (Nat.le_refl _)).len
  rw [List.take_of_length_le (Nat.le_refl _), sorted_length] at this
  exact this
 ·simp
end Go.Gim
namespace Go.Proofs.YthlmgoagnfkhdaaGreat
open Go.RowKit Go.Gim
structure DsFit (x : Ds) : Prop where
 es : x.es.length ≤ 6
 et : ∀ e ∈ x.es, e.t.size ≤ 40
 t : x.t.size ≤ 40
 sl : x.sl.length ≤ 6
theorem Both.pick {w0 w w1 : World} {S S' : Sh} {p p' : Pp} {Bd : Int} {w2 : World} (h : Both w0 w S p Bd 6) (hd : ShDone S S' w w1) (e1 : S'.s = S.s) (e2 : S'.L = S.L) (e3 : S'.last = S.last) (hp : PapAt w2 w0.heap.size p' S.s S'.q S.L S.last) (hm : Mod (PapS w0.heap.size w1) w1 w2) (q0 : 0 < S'.q.length) (q1 : S'.q.length ≤ 6) (hq : InT S.s.size S'.q) :
  Both w0 w2 S' p' (Bd + 2000000) 6 :=
 h.whole hd (by rw [e1, e2, e3]; exact hp) hm (by rw [e2, e3]; exact h.tok.mono (by omega)) (by have := h.bd; omega) q0 q1 (by rw [e1]; exact hq)
end Go.Proofs.YthlmgoagnfkhdaaGreat

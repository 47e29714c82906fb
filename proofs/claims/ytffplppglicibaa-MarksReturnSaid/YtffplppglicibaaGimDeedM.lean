/- The deeds that gimletlaw7's statements are given: how they come in; what much answers of them. Conditions: at most 100 deeds. -/
import Derived.Test.YtffplppglicibaaGimLaw
import Derived.Test.YtffplppglicibaaGimRow
import Derived.Test.YtffplppglicibaaGimMoveE
import Derived.Lib.SmallJoins
namespace Go.Gim
open Go Go.RowKit
/-- A deed: its kind, three numbers, two truth values, edits, and where these lie. -/
structure Dm where
  k : Int
  a : Int
  b : Int
  c : Int
  p : Bool
  q : Bool
  ao : Option Addr
  cap : Nat
  es : List Ed
def dmE : Enc Dm := ⟨7, by decide, fun x => [.int .i64 x.k, .int .i64 x.a, .int .i64 x.b, .int .i64 x.c, .bool x.p, .bool x.q, .slice x.ao x.es.length x.cap], fun _ => rfl, fun x u hu => by simp at hu; rcases hu with rfl | rfl | rfl | rfl | rfl | rfl | rfl <;> rfl⟩
/-- A deed's edits lie there; its numbers are numbers. -/
structure DmOk (w : World) (x : Dm) : Prop where
  rd : Reads w 3 x.ao x.es.length (edE.cells x.es)
  len : x.es.length ≤ maxLen
  ed : ∀ e ∈ x.es, e.t.size ≤ maxLen ∧ (Lit.int .i64 e.a).wf = true ∧ (Lit.int .i64 e.b).wf = true
  wa : (Lit.int .i64 x.a).wf = true
  wb : (Lit.int .i64 x.b).wf = true
  wc : (Lit.int .i64 x.c).wf = true
theorem DmOk.ext {w w' : World} {x : Dm} (h : DmOk w x) (hm : Ext w w') : DmOk w' x := ⟨h.rd.mod hm (fun _ _ f => f), h.len, h.ed, h.wa, h.wb, h.wc⟩
theorem reads_dm {w : World} {b off n : Nat} {L : List Dm} (h : Reads w 7 (some ⟨b, off, none⟩) n (dmE.cells L)) {i : Nat} {x : Dm} (hx : L[i]? = some x) :
    (w.cell? ⟨b, off + i * 7, none⟩ = some (.int .i64 x.k) ∧ w.cell? ⟨b, off + i * 7 + 1, none⟩ = some (.int .i64 x.a) ∧ w.cell? ⟨b, off + i * 7 + 2, none⟩ = some (.int .i64 x.b) ∧ w.cell? ⟨b, off + i * 7 + 3, none⟩ = some (.int .i64 x.c)) ∧ w.cell? ⟨b, off + i * 7 + 4, none⟩ = some (.bool x.p) ∧ w.cell? ⟨b, off + i * 7 + 5, none⟩ = some (.bool x.q) ∧ w.cell? ⟨b, off + i * 7 + 6, none⟩ = some (.slice x.ao x.es.length x.cap) :=
  ⟨⟨Enc.reads_at (E := dmE) (j := 0) h hx rfl, Enc.reads_at (E := dmE) (j := 1) h hx rfl, Enc.reads_at (E := dmE) (j := 2) h hx rfl, Enc.reads_at (E := dmE) (j := 3) h hx rfl⟩, Enc.reads_at (E := dmE) (j := 4) h hx rfl, Enc.reads_at (E := dmE) (j := 5) h hx rfl, Enc.reads_at (E := dmE) (j := 6) h hx rfl⟩
/-- Have edits' texts more than n bytes together? -/
def muchE (n : Int) : List Ed → Bool
  | [] => false
  | x :: r => if n < x.t.size then true else muchE (n - x.t.size) r
def MuchB (many n : Int) (es : List Ed) : Bool := if many < es.length then true else muchE n es
def muchD (L : List Dm) : Bool := L.any fun x => MuchB 8 60 x.es
theorem muchE_no : ∀ (l : List Ed) (n : Int), muchE n l = false → ∀ e ∈ l, (e.t.size : Int) ≤ n := by
  intro l
  induction l with
  | nil => intro n _ e he; cases he
  | cons x r ih =>
    intro n h e he
    simp only [muchE] at h
    split at h
    · cases h
    · rcases List.mem_cons.1 he with rfl | he
      · omega
      · have := ih _ h e he; omega
theorem MuchB_no {es : List Ed} (h : MuchB 8 60 es = false) : es.length ≤ 8 ∧ ∀ e ∈ es, e.t.size ≤ 60 := by
  unfold MuchB at h
  split at h
  · cases h
  · exact ⟨by omega, fun e he => by have := muchE_no es 60 h e he; omega⟩
theorem muchD_no {L : List Dm} (h : muchD L = false) : ∀ x ∈ L, x.es.length ≤ 8 ∧ ∀ e ∈ x.es, e.t.size ≤ 60 := by
  intro x hx
  refine MuchB_no ?_
  unfold muchD at h
  cases hb : MuchB 8 60 x.es with
  | false => rfl
  | true => rw [List.any_eq_true.2 ⟨x, hx, hb⟩] at h; cases h
theorem array7 {α : Type} {cs : Array α} (h : cs.size = 7) : ∃ c0 c1 c2 c3 c4 c5 c6, cs = #[c0, c1, c2, c3, c4, c5, c6] := by
  obtain ⟨l⟩ := cs
  match l, h with
  | [c0, c1, c2, c3, c4, c5, c6], _ => exact ⟨c0, c1, c2, c3, c4, c5, c6, rfl⟩
end Go.Gim
namespace Go.Proofs.Ytffplppglicibaa
open Go.ChangeShapes Go.WideShapes Go.ChangeAt Go.RowKit Go.Gim

/-- A slice within what came in: its elements' cells, each element read by itself. -/
theorem open_slice_in {H : Type} {enc : TypeId × Value → H} {P : Program} {W : World} {t e : TypeId} {cs : List Value} {fuel : Nat} {y : DataW H × List MemPlace} (sz : Nat) (ht : P.underlying t = some (.slice e)) (hc : P.cellsOf e = sz) (hsz : 0 < sz)
    (hf : DataW.trod enc P W 0 (fun _ => true) true fuel t cs = some y) :
    ∃ (ao : Option Addr) (cap : Nat) (els : List (List Value)), cs = [.slice ao els.length cap] ∧ Reads W sz ao els.length els.flatten ∧ els.length ≤ maxLen ∧
      ∀ el ∈ els, el.length = sz ∧ ∃ n x, DataW.trod enc P W 0 (fun _ => true) true n e el = some x := by
  rcases Go.Deep.open_slice ht hf with ⟨hcs, _⟩ | ⟨a, len', cap', m, n, D, Pl, hcs, _, hl, hm, hmm, _, hx⟩
  · subst hcs
    exact ⟨none, 0, [], rfl, ⟨by simp, fun h => absurd h (Nat.lt_irrefl _)⟩, Nat.zero_le _, by simp⟩
  · subst hcs
    simp only [if_true] at hmm
    subst hmm
    obtain ⟨C, hC⟩ := Go.Deep.choose_lt (α := List Value) (p := fun i cs' => W.cells? 0 (a.add (i * P.cellsOf e)) (P.cellsOf e) = some cs' ∧ DataW.trod enc P W 0 (fun _ => true) true n e cs' = some (D i, Pl i)) hx
    rw [hc] at hC
    have hlen : ∀ el ∈ (List.range len').map C, el.length = sz := by
      intro el hel
      obtain ⟨i, hi, rfl⟩ := List.mem_map.1 hel
      have := (World.cells?_some (hC i (by simp at hi; omega)).1).2.1
      exact this
    have hn : ((List.range len').map C).length = len' := by simp
    refine ⟨some a, m, (List.range len').map C, by rw [hn], ⟨flatten_len sz _ hlen, fun h0 => ?_⟩, by omega, fun el hel => ⟨hlen el hel, ?_⟩⟩
    · obtain ⟨b, off, spot⟩ := a
      have h00 := (World.cells?_some (hC 0 (by rw [hn] at h0; omega)).1).2.2 0 hsz
      have hl0 := (World.cells?_some (hC 0 (by rw [hn] at h0; omega)).1).2.1
      have hspot : spot = none := by
        rw [Nat.zero_mul] at h00
        have h01 : W.cell? ⟨b, off, spot⟩ = some ((C 0)[0]'(by omega)) := by
          have h02 : ((⟨b, off, spot⟩ : Addr).add 0).add 0 = ⟨b, off, spot⟩ := by simp [Addr.add]
          rw [h02] at h00
          rw [h00]; exact List.getElem?_eq_getElem _
        exact World.cell?_spot h01
      subst hspot
      refine ⟨b, off, rfl, fun j hj => ?_⟩
      rw [flatten_at sz hsz _ _ hlen]
      rw [flatten_len sz _ hlen, hn] at hj
      have hjd : j / sz < len' := (Nat.div_lt_iff_lt_mul hsz).2 hj
      have hcj := (World.cells?_some (hC (j / sz) (by omega)).1).2.2 (j % sz) (Nat.mod_lt _ hsz)
      rw [WideShapes.add_plain, WideShapes.add_plain, Nat.add_assoc, Nat.mul_comm, Nat.div_add_mod] at hcj
      rw [hcj]
      simp [hjd]
    · obtain ⟨i, hi, rfl⟩ := List.mem_map.1 hel
      exact ⟨n, _, (hC i (by simp at hi; omega)).2⟩

/-- Edits that lie in what came in. -/
theorem open_edits_in {H : Type} {enc : TypeId × Value → H} {P : Program} {W : World} {t e sp : TypeId} {f0 f1 g0 g1 : Field} {cs : List Value} {fuel : Nat} {y : DataW H × List MemPlace} (ht : P.underlying t = some (.slice e)) (he : P.underlying e = some (.struct #[f0, f1])) (hc : P.cellsOf e = 3)
    (hs : P.underlying sp = some (.struct #[g0, g1])) (t0 : f0.type = sp ∧ f0.offset = 0 ∧ P.cellsOf sp = 2) (o1 : f1.offset = 2 ∧ P.cellsOf f1.type = 1) (p0 : g0.offset = 0 ∧ P.cellsOf g0.type = 1) (p1 : g1.offset = 1 ∧ P.cellsOf g1.type = 1)
    (u0 : P.underlying g0.type = some (.int .i64)) (u1 : P.underlying g1.type = some (.int .i64)) (u2 : P.underlying f1.type = some .string)
    (hf : DataW.trod enc P W 0 (fun _ => true) true fuel t cs = some y) :
    ∃ (ao : Option Addr) (cap : Nat) (es : List Ed), cs = [.slice ao es.length cap] ∧ Reads W 3 ao es.length (edE.cells es) ∧ es.length ≤ maxLen ∧ ∀ e ∈ es, e.t.size ≤ maxLen ∧ (Lit.int .i64 e.a).wf = true ∧ (Lit.int .i64 e.b).wf = true := by
  obtain ⟨ao, cap, els, rfl, hr, hm, hel⟩ := open_slice_in (enc := enc) 3 ht hc (by omega) hf
  obtain ⟨L, rfl, hq⟩ := list_choose edE.f (fun e => e.t.size ≤ maxLen ∧ (Lit.int .i64 e.a).wf = true ∧ (Lit.int .i64 e.b).wf = true) els (fun el h => by
    obtain ⟨hl, n, x, hx⟩ := hel el h
    obtain ⟨y0, y1, m, _, _, h0, h1⟩ := trod_struct2 he hx
    obtain ⟨c0, c1, c2, hcs⟩ := Go.Joins.array3 (cs := el.toArray) (by simpa using hl)
    have hcs : el = [c0, c1, c2] := by simpa using congrArg Array.toList hcs
    subst hcs
    rw [t0.2.1, t0.1, t0.2.2] at h0
    rw [o1.1, o1.2] at h1
    simp at h0 h1
    obtain ⟨z0, z1, m2, _, _, k0, k1⟩ := trod_struct2 hs h0
    rw [p0.1, p0.2] at k0
    rw [p1.1, p1.2] at k1
    simp at k0 k1
    obtain ⟨a0, e0, _, l0⟩ := DataW.trod_int u0 k0
    obtain ⟨a1, e1, _, l1⟩ := DataW.trod_int u1 k1
    obtain ⟨a2, e2, _, l2⟩ := DataW.trod_string u2 h1
    simp at e0 e1 e2
    subst e0 e1 e2
    exact ⟨⟨a0, a1, a2⟩, rfl, l2, l0, l1⟩)
  rw [show (L.map edE.f).flatten = edE.cells L from rfl, List.length_map] at hr
  rw [List.length_map] at hm ⊢
  exact ⟨ao, cap, L, rfl, hr, hm, hq⟩

/-- A slice of deeds that came in. -/
theorem open_deedsM {H : Type} {enc : TypeId × Value → H} {P : Program} {W : World} {b0 : Nat} {t e et ee sp : TypeId} {f0 f1 f2 f3 f4 f5 f6 q0 q1 g0 g1 : Field} {v : Value} {d : DataW H} {ps : List MemPlace} (ht : P.underlying t = some (.slice e)) (he : P.underlying e = some (.struct #[f0, f1, f2, f3, f4, f5, f6])) (hone : Go.Deep.oneCellFields P #[f0, f1, f2, f3, f4, f5, f6] = true) (hc : P.cellsOf e = 7)
    (u0 : P.underlying f0.type = some (.int .i64)) (u1 : P.underlying f1.type = some (.int .i64)) (u2 : P.underlying f2.type = some (.int .i64)) (u3 : P.underlying f3.type = some (.int .i64)) (u4 : P.underlying f4.type = some .bool) (u5 : P.underlying f5.type = some .bool) (u6 : f6.type = et)
    (het : P.underlying et = some (.slice ee)) (hee : P.underlying ee = some (.struct #[q0, q1])) (hce : P.cellsOf ee = 3)
    (hs : P.underlying sp = some (.struct #[g0, g1])) (t0 : q0.type = sp ∧ q0.offset = 0 ∧ P.cellsOf sp = 2) (o1 : q1.offset = 2 ∧ P.cellsOf q1.type = 1) (p0 : g0.offset = 0 ∧ P.cellsOf g0.type = 1) (p1 : g1.offset = 1 ∧ P.cellsOf g1.type = 1)
    (v0 : P.underlying g0.type = some (.int .i64)) (v1 : P.underlying g1.type = some (.int .i64)) (v2 : P.underlying q1.type = some .string)
    (hval : Value.okWide P W .any b0 t v) (hd : DataW.Trod enc P W 0 (fun _ => true) true t v d ps) :
    ∃ (ao : Option Addr) (cap : Nat) (L : List Dm), v = .slice ao L.length cap ∧ Reads W 7 ao L.length (dmE.cells L) ∧ L.length ≤ maxLen ∧ ∀ x ∈ L, DmOk W x := by
  obtain ⟨ao, cap, els, rfl, hr, hm, hel⟩ := open_slice_reads (enc := enc) 7 ht hc (by omega) hval hd
  obtain ⟨L, rfl, hq⟩ := list_choose dmE.f (DmOk W) els (fun el h => by
    obtain ⟨hl, n, x, hx⟩ := hel el h
    obtain ⟨xs, m, _, _, _, hlen, hfs⟩ := DataW.trod_struct he hx
    obtain ⟨c0, c1, c2, c3, c4, c5, c6, hcs⟩ := array7 (cs := el.toArray) (by simpa using hl)
    have hcs : el = [c0, c1, c2, c3, c4, c5, c6] := by simpa using congrArg Array.toList hcs
    subst hcs
    match xs, hlen with
    | [y0, y1, y2, y3, y4, y5, y6], _ =>
      obtain ⟨o0, k0⟩ := Go.Deep.hone_of hone 0 f0 rfl
      obtain ⟨o1', k1⟩ := Go.Deep.hone_of hone 1 f1 rfl
      obtain ⟨o2, k2⟩ := Go.Deep.hone_of hone 2 f2 rfl
      obtain ⟨o3, k3⟩ := Go.Deep.hone_of hone 3 f3 rfl
      obtain ⟨o4, k4⟩ := Go.Deep.hone_of hone 4 f4 rfl
      obtain ⟨o5, k5⟩ := Go.Deep.hone_of hone 5 f5 rfl
      obtain ⟨o6, k6⟩ := Go.Deep.hone_of hone 6 f6 rfl
      have g0' := hfs 0 f0 rfl
      have g1' := hfs 1 f1 rfl
      have g2' := hfs 2 f2 rfl
      have g3' := hfs 3 f3 rfl
      have g4' := hfs 4 f4 rfl
      have g5' := hfs 5 f5 rfl
      have g6' := hfs 6 f6 rfl
      rw [o0, k0] at g0'
      rw [o1', k1] at g1'
      rw [o2, k2] at g2'
      rw [o3, k3] at g3'
      rw [o4, k4] at g4'
      rw [o5, k5] at g5'
      rw [o6, k6, u6] at g6'
      obtain ⟨a0, e0, _, l0⟩ := DataW.trod_int u0 g0'
      obtain ⟨a1, e1, _, l1⟩ := DataW.trod_int u1 g1'
      obtain ⟨a2, e2, _, l2⟩ := DataW.trod_int u2 g2'
      obtain ⟨a3, e3, _, l3⟩ := DataW.trod_int u3 g3'
      obtain ⟨a4, e4, _⟩ := DataW.trod_bool u4 g4'
      obtain ⟨a5, e5, _⟩ := DataW.trod_bool u5 g5'
      obtain ⟨ao6, cap6, es, e6, r6, m6, q6⟩ := open_edits_in het hee hce hs t0 o1 p0 p1 v0 v1 v2 g6'
      simp at e0 e1 e2 e3 e4 e5 e6
      subst e0 e1 e2 e3 e4 e5 e6
      exact ⟨⟨a0, a1, a2, a3, a4, a5, ao6, cap6, es⟩, rfl, ⟨r6, m6, q6, l1, l2, l3⟩⟩)
  rw [show (L.map dmE.f).flatten = dmE.cells L from rfl, List.length_map] at hr
  rw [List.length_map] at hm ⊢
  exact ⟨ao, cap, L, rfl, hr, hm, hq⟩

set_option maxHeartbeats 1600000 in
set_option maxRecDepth 1000000 in
theorem MuchE_any (many n : Int) (ao : Option Addr) (cap : Nat) (L : List Ed) (w : World) (hr : Reads w 3 ao L.length (edE.cells L)) (hn : L.length ≤ maxLen) (hm : many ≤ 100) (h0 : 0 ≤ n) (h1 : n ≤ 1000000) :
    Calls Try.prog 36 #[.int .i64 many, .int .i64 n, .slice ao L.length cap] w fun e w' => e = .returned (.bool (MuchB many n L)) ∧ w' = w := by
  unfold maxLen at hn
  by_cases hmm : many < (L.length : Int)
  · unfold MuchB
    rw [if_pos hmm]
    clear hr
    go_enter Try.func36, Try.ntmps36
    go_wp2_with fail
    go_ret
    exact ⟨rfl, rfl⟩
  · unfold MuchB
    rw [if_neg hmm]
    have hn2 : L.length ≤ 100 := by omega
    generalize hX : muchE n L = X
    have HX := Lib.hid hX
    have Hr := Lib.hid hr
    clear hX hr
    go_enter Try.func36, Try.ntmps36
    go_wp2_with fail
    go_loop [1, 7] (fun s1 s2 => ∃ (k : Nat) (m : Int), k ≤ L.length ∧ 0 ≤ m ∧ m ≤ 1000000 ∧ s2 = .int .i64 k ∧ s1 = .int .i64 m ∧ Hid (muchE m (L.drop k) = X)) (fun _ s2 => L.length - (intOf s2).toNat)
    case atStart => exact ⟨0, n, by omega, h0, h1, rfl, rfl, HX⟩
    case round =>
      obtain ⟨k, m, hk, m0, m1, rfl, rfl, HM⟩ := hrel
      by_cases hlt : k < L.length
      · have hlt' : (k : Int) < (L.length : Int) := by omega
        have hk0 : (0 : Int) ≤ (k : Int) := by omega
        obtain ⟨b, off, rfl⟩ := Hr.out.some (by omega)
        obtain ⟨_, _, hc⟩ := reads_ed Hr.out (List.getElem?_eq_getElem hlt)
        have hd := List.drop_eq_getElem_cons hlt
        have hM := HM.out
        rw [hd] at hM
        generalize L[k] = y at *
        simp only [muchE] at hM
        generalize y.t = x at *
        by_cases hx : m < (x.size : Int)
        · rw [if_pos hx] at hM
          have hM2 := Lib.hid hM
          clear hM hd
          go_wp2_with fail
          go_ret
          exact ⟨ret_bool hM2.out, rfl⟩
        · rw [if_neg hx] at hM
          have hx' : decide (m < (x.size : Int)) = false := by simpa using hx
          have hM2 := Lib.hid hM
          clear hM hd
          go_wp2_with fail
          go_round
          case rel => exact ⟨k + 1, m - x.size, by omega, by omega, by omega, by go_num, rfl, hM2⟩
          case measure => simp [intOf]; omega
      · have hlt' : ¬ (k : Int) < (L.length : Int) := by omega
        have hM := HM.out
        rw [List.drop_of_length_le (by omega)] at hM
        have HM2 := Lib.hid hM
        clear hM
        go_wp2_with fail
        go_ret
        exact ⟨ret_bool HM2.out, rfl⟩

set_option maxHeartbeats 1600000 in
set_option maxRecDepth 1000000 in
theorem muchM_any (ao : Option Addr) (cap : Nat) (L : List Dm) (w : World) (hr : Reads w 7 ao L.length (dmE.cells L)) (hok : ∀ x ∈ L, DmOk w x) (hn : L.length ≤ maxLen) :
    Calls Try.prog 21 #[.int .i64 20, .slice ao L.length cap] w fun e w' => e = .returned (.bool (if 20 < L.length then true else muchD L)) ∧ w' = w := by
  unfold maxLen at hn
  by_cases hmm : 20 < L.length
  · rw [if_pos hmm]
    have hm1 : (20 : Int) < (L.length : Int) := by omega
    clear hr hok
    go_enter Try.func21, Try.ntmps21
    go_wp2_with fail
    go_ret
    exact ⟨rfl, rfl⟩
  · rw [if_neg hmm]
    have hm1 : ¬ (20 : Int) < (L.length : Int) := by omega
    have HX := Lib.hid (show muchD (L.drop 0) = muchD L from rfl)
    generalize muchD L = X at *
    have Hr := Lib.hid hr
    have Hok := Lib.hid hok
    clear hr hok
    go_enter Try.func21, Try.ntmps21
    go_wp2_with fail
    go_loop [5] (fun s2 => ∃ (k : Nat), k ≤ L.length ∧ s2 = .int .i64 k ∧ Hid (muchD (L.drop k) = X)) (fun s2 => L.length - (intOf s2).toNat)
    case atStart => exact ⟨0, by omega, rfl, HX⟩
    case round =>
      obtain ⟨k, hk, rfl, HM⟩ := hrel
      by_cases hlt : k < L.length
      · have hlt' : (k : Int) < (L.length : Int) := by omega
        have hk0 : (0 : Int) ≤ (k : Int) := by omega
        obtain ⟨b, off, rfl⟩ := Hr.out.some (by omega)
        obtain ⟨_, _, _, hc⟩ := reads_dm Hr.out (List.getElem?_eq_getElem hlt)
        have hd := List.drop_eq_getElem_cons hlt
        have hM := HM.out
        rw [hd] at hM
        have ho := Hok.out _ (List.getElem_mem hlt)
        generalize L[k] = y at *
        have HC := Lib.hid (MuchE_any 8 60 y.ao y.cap y.es w ho.rd ho.len (by omega) (by omega) (by omega))
        unfold muchD at hM
        rw [List.any_cons] at hM
        generalize y.es.length = n at *
        generalize y.cap = yc at *
        generalize y.ao = yo at *
        cases hB : MuchB 8 60 y.es with
        | true =>
          rw [hB] at HC hM
          have hM2 := Lib.hid (show true = X by simpa using hM)
          clear hM hd ho hB
          go_wp2_with fail
          refine HC.out.mono ?_
          rintro e w1 ⟨rfl, rfl⟩
          go_wp2_with fail
          go_ret
          exact ⟨ret_bool hM2.out, rfl⟩
        | false =>
          rw [hB] at HC hM
          have hM2 := Lib.hid (show muchD (L.drop (k + 1)) = X by simpa [muchD] using hM)
          clear hM hd ho hB
          go_wp2_with fail
          refine HC.out.mono ?_
          rintro e w1 ⟨rfl, rfl⟩
          go_wp2_with fail
          go_round
          case rel => exact ⟨k + 1, by omega, by go_num, hM2⟩
          case measure => simp [intOf]; omega
      · have hlt' : ¬ (k : Int) < (L.length : Int) := by omega
        have hM := HM.out
        rw [List.drop_of_length_le (by omega)] at hM
        have HM2 := Lib.hid hM
        clear hM
        go_wp2_with fail
        go_ret
        exact ⟨ret_bool HM2.out, rfl⟩
end Go.Proofs.Ytffplppglicibaa

/- What package rope's lay and text compute. Conditions: at most 10000000 bytes. -/
import Derived.Test.YthlmgoagnfkhdaaGreatGimG09
import Derived.Test.YthlmgoagnfkhdaaGreatGimG01
import Derived.Test.YthlmgoagnfkhdaaGreatGimG02
import Derived.Test.YthlmgoagnfkhdaaGreatGimG04
import Derived.Deep.DeepCutAuto
import Derived.Deep.CutBlock
import Derived.Outline
set_option maxHeartbeats 6400000
set_option maxRecDepth 1000000
set_option linter.unusedVariables false
set_option linter.unusedSimpArgs false
namespace Go.Proofs.YthlmgoagnfkhdaaGreat
open Go.RowKit Go.Gim Go.Lib
theorem Tryz.info5 : (Tryz.prog.info? 5).map (fun i => (i.zero, i.size, i.bytes)) = some (some (.int .u8 0), 1, 1) := by kernel_rfl
def RowB (B : Nat) (l : List UInt8) (v : Value) (w : World) : Prop := B ≤ w.heap.size ∧ w.ownsRow B 5 1 v l.length (l.map fun b => Value.int .u8 b.toNat)
def LayPost (t : T) (f g : Int) (B : Nat) (l : List UInt8) (w : World) (e : Ending) (w' : World) : Prop :=
 ∃ v', e = .returned v' ∧ RowB B (l ++ cut t.text f g) v' w' ∧ Mod (B ≤ ·) w w'
theorem RowB.append {B : Nat} {l : List UInt8} {v v' : Value} {w w' : World} {s : ByteArray} (h : RowB B l v w) (h1 : w'.ownsRow B 5 1 v' (l.length + s.size) ((l.map fun b => Value.int .u8 b.toNat) ++ strCells s)) (hm : Mod (fun k => v.ownBlock = some k) w w') :
  RowB B (l ++ s.data.toList) v' w' ∧ Mod (B ≤ ·) w w' := by
 refine ⟨⟨Nat.le_trans h.1 hm.size, ?_⟩, hm.mono (fun k _ hk => (h.2.lt k hk).1)⟩
 rw [List.length_append, toList_length, List.map_append]
 exact h1
theorem RowB.later {B : Nat} {l : List UInt8} {v : Value} {w w' : World} (h : RowB B l v w) (hm : Ext w w') : RowB B l v w' :=
 ⟨Nat.le_trans h.1 hm.size, ownsRow_mod h.2 hm (fun _ _ f => f)⟩
theorem wpList_append_rowB {w : World} {ops : Array Oper} {rest : List Oper} {o : Oper} {a : Act} {Q : Exit → Act → World → Prop} (hgd : o.guard = none) (sl x : Operand)
  (ho : o.op = .call { callee := .builtin .append, args := #[sl, x], argTypes := #[137, 9] })
  (B : Nat) (l : List UInt8) (v : Value) (hs : a.eval sl = v) (hr : RowB B l v w) (s : ByteArray) (hx : a.eval x = .string s) (h63 : l.length + s.size ≤ 1000000000)
  (h : ∀ v' w', RowB B (l ++ s.data.toList) v' w' → Mod (B ≤ ·) w w' → wpList Tryz.prog ops Q rest (a.put o.dst v') w') : wpList Tryz.prog ops Q (o :: rest) a w := by
 refine wpList_append_str hgd sl x 137 9 ho B 5 Tryz.info5 Tryz.underlying137 Tryz.underlying9 v _ _ hs hr.2 s hx h63 hr.1 fun v' w' k1 k2 => ?_
 obtain ⟨h1, h2⟩ := hr.append k1 k2
 exact h v' w' h1 h2
theorem lay_any : ∀ (t : T) (v : Value) (l : List UInt8) (f g : Int) (B : Nat) (w : World), TreeAt w t → (∀ k ∈ t.blocks, k < B) → t.size ≤ 10000000 → 0 ≤ f → g ≤ 10000000 → f ≤ 10000000 → RowB B l v w → l.length + t.size ≤ 100000000 →
  Calls Tryz.prog 79 #[.pointer t.addr, v, .int .i64 f, .int .i64 g] w (LayPost t f g B l w) := by
 intro t
 induction t with
 | nil =>
  intro v l f g B w ht hlt hs h0 h1 h2 hr hl
  show Calls _ _ #[.pointer none, v, .int .i64 f, .int .i64 g] _ _
  have HR := Lib.hid hr
  clear ht hlt hs hl hr
  go_enter Tryz.func79, Tryz.ntmps79
  go_wp2_with fail
  go_ret
  exact ⟨v, rfl, by simpa [T.text, cut] using HR.out, Mod.refl _ _⟩
 | node b own p tl tr ihl ihr =>
  intro v l f g B w ht hlt hs h0 h1 h2 hr hl
  show Calls _ _ #[.pointer (some ⟨b, 0, none⟩), v, .int .i64 f, .int .i64 g] _ _
  by_cases hft : g ≤ f
  ·have HR := Lib.hid hr
   clear ht hlt hs hl hr ihl ihr
   go_enter Tryz.func79, Tryz.ntmps79
   go_wp2_with fail
   go_ret
   exact ⟨v, rfl, by rw [cut_none _ _ _ hft, List.append_nil]; exact HR.out, Mod.refl _ _⟩
  ·have hsz := T.size_node b own p tl tr
   obtain ⟨_, c4, _, c9, c10, c11⟩ := Blk.node ht.1
   have hbB : b < B := hlt b (by simp [T.blocks])
   have HR := Lib.hid hr
   have Ihl := Lib.hid ihl
   have Ihr := Lib.hid ihr
   have HT := Lib.hid ht
   clear hr ihl ihr ht
   go_enter Tryz.func79, Tryz.ntmps79
   go_wp2_with fail
   refine (size_any tl _ HT.out.2.1).mono ?_
   rintro e w' ⟨rfl, rfl⟩
   go_upto_if 28 with fail
   go_cut [1] (fun p wx => ∃ v1, v1 = p ∧ Hid (RowB B (l ++ cut tl.text f g) v1 wx ∧ Mod (B ≤ ·) w' wx))
   case first =>
    by_cases hk : f < (tl.size : Int)
    ·go_wp2_with fail
     all_goals
      refine (Ihl.out v l f _ B _ HT.out.2.1 (fun k hk => hlt k (by simp [T.blocks, hk])) (by omega) h0 (by omega) h2 HR.out (by omega)).mono ?_
      rintro e w2 ⟨v', rfl, hr2, hm2⟩
      have Hr2 := Lib.hid hr2
      clear hr2
      go_wp2_with fail
      go_meet
      case rel =>
       refine ⟨v', rfl, Lib.hid ⟨?_, hm2⟩⟩
       have h3 := Hr2.out
       first | exact h3 | (rw [cut_to tl.text f g tl.size (by rw [← show tl.size = tl.text.length from rfl]; omega) (by omega) (by omega)]; exact h3)
    ·go_wp2_with fail
     go_meet
     case rel => exact ⟨v, rfl, Lib.hid ⟨by rw [cut_out _ _ _ (by rw [← show tl.size = tl.text.length from rfl]; omega), List.append_nil]; exact HR.out, Mod.refl _ _⟩⟩
   case rest =>
    obtain ⟨v1, rfl, HM⟩ := hcut
    obtain ⟨w1, hw1⟩ : ∃ w1 : World, w1 = wc := ⟨_, rfl⟩
    rw [← hw1] at HM ⊢
    clear hw1 c4 c9 c10 c11
    have ht1 := HT.out.mod HM.out.2 (fun k hk => by have := hlt k hk; omega)
    obtain ⟨_, c4, _, c9, c10, c11⟩ := Blk.node ht1.1
    have HT1 := Lib.hid ht1
    clear ht1
    go_upto_region 7 with fail
    go_cut [11, 12] (fun p q wx => ∃ lo hi : Int, p = .int .i64 lo ∧ q = .int .i64 hi ∧ w1 = wx ∧ 0 ≤ lo ∧ lo ≤ 100000000 ∧ hi ≤ 100000000 ∧ f ≤ lo ∧ hi ≤ g ∧ (tl.size : Int) ≤ lo ∧ hi ≤ (tl.size : Int) + (own.size : Int) ∧ (lo = f ∨ lo = (tl.size : Int)) ∧ (hi = g ∨ hi = (tl.size : Int) + (own.size : Int)))
    case first =>
     go_wp2_with fail
     all_goals
      go_meet
      case rel => exact ⟨_, _, rfl, rfl, rfl, by omega, by omega, by omega, by omega, by omega, by omega, by omega, by omega, by omega⟩
    case rest =>
     obtain ⟨lo, hi, rfl, rfl, rfl, b1, b2, b3, b4, b5, b6, b7, b8, b9⟩ := hcut
     have hcut0 : cut own.data.toList (f - (tl.size : Int)) (g - (tl.size : Int)) = cut own.data.toList (lo - (tl.size : Int)) (hi - (tl.size : Int)) := by
      rw [cut_from own.data.toList (f - (tl.size : Int)) (lo - (tl.size : Int)) _ (by omega)]
      have e : own.data.toList.length = own.size := rfl
      by_cases hz : (tl.size : Int) ≤ hi
      ·exact cut_to _ _ _ _ (by rw [e]; omega) (by omega) (by omega)
      ·rw [cut_none _ _ _ (by omega), cut_none _ _ _ (by omega)]
     have Hc0 := Lib.hid hcut0
     clear hcut0
     go_upto_if 54 with fail
     go_cut [1] (fun p wx => ∃ v2, v2 = p ∧ Hid (RowB B (l ++ (cut tl.text f g ++ cut own.data.toList (f - (tl.size : Int)) (g - (tl.size : Int)))) v2 wx ∧ Mod (B ≤ ·) w' wx))
     case first =>
      by_cases hlh : lo < hi
      ·have e1 := cut_len tl.text f g
       have e2 : tl.text.length = tl.size := rfl
       have hb : (l ++ cut tl.text f g).length ≤ 200000000 := by rw [List.length_append, e1, e2]; omega
       clear e1 e2
       have HM1 := HM.out.1
       generalize hll : l ++ cut tl.text f g = ll at *
       have Hll := Lib.hid hll
       clear hll
       go_wp2_with (at_builtin; refine wpList_append_rowB rfl _ _ rfl B ll v1 rfl HM1 _ rfl ?h63 ?_)
       case h63 => simp; omega
       intro v2 w2 k1 k2
       have K1 := Lib.hid k1
       clear k1
       go_wp2_with fail
       go_meet
       case rel =>
        refine ⟨v2, rfl, Lib.hid ⟨?_, Mod.trans HM.out.2 k2 (fun _ _ h => h)⟩⟩
        rw [← List.append_assoc, Hll.out, Hc0.out]
        have h3 := K1.out
        rw [take_drop_cut own.data.toList (lo.toNat - tl.size) (hi.toNat - tl.size) (lo - (tl.size : Int)) (hi - (tl.size : Int)) (by omega) (by omega)] at h3
        exact h3
      ·go_wp2_with fail
       go_meet
       case rel => exact ⟨v1, rfl, Lib.hid ⟨by rw [Hc0.out, cut_none own.data.toList _ _ (by omega), List.append_nil]; exact HM.out.1, HM.out.2⟩⟩
     case rest =>
      obtain ⟨v2, rfl, HM2⟩ := hcut
      obtain ⟨w2, hw2⟩ : ∃ w2 : World, w2 = wc := ⟨_, rfl⟩
      rw [← hw2] at HM2 ⊢
      clear hw2 c4 c9 c10 c11 HT1
      have ht2 := HT.out.mod HM2.out.2 (fun k hk => by have := hlt k hk; omega)
      obtain ⟨_, c4, _, c9, c10, c11⟩ := Blk.node ht2.1
      have HT2 := Lib.hid ht2
      clear ht2
      have e1 := cut_len tl.text f g
      have e2 : tl.text.length = tl.size := rfl
      have e3 := cut_len own.data.toList (f - (tl.size : Int)) (g - (tl.size : Int))
      have e4 : own.data.toList.length = own.size := rfl
      have hb : (l ++ (cut tl.text f g ++ cut own.data.toList (f - (tl.size : Int)) (g - (tl.size : Int)))).length + tr.size ≤ 100000000 := by rw [List.length_append, List.length_append, e1, e2, e3, e4]; omega
      clear e1 e2 e3 e4
      have hfin : cut (T.node b own p tl tr).text f g = cut tl.text f g ++ (cut own.data.toList (f - (tl.size : Int)) (g - (tl.size : Int)) ++ cut tr.text (f - ((tl.size : Int) + (own.size : Int))) (g - ((tl.size : Int) + (own.size : Int)))) := cut_node tl.text own.data.toList tr.text f g h0
      have Hfin := Lib.hid hfin
      clear hfin
      generalize hll : l ++ (cut tl.text f g ++ cut own.data.toList (f - (tl.size : Int)) (g - (tl.size : Int))) = ll at *
      have Hll := Lib.hid hll
      clear hll
      by_cases hgt : (tl.size : Int) + (own.size : Int) < g
      ·go_wp2_with fail
       all_goals
        refine (Ihr.out v2 ll _ _ B _ HT2.out.2.2 (fun k hk => hlt k (by simp [T.blocks, hk])) (by omega) (by omega) (by omega) (by omega) HM2.out.1 hb).mono ?_
        rintro e w3 ⟨v3, rfl, hr3, hm3⟩
        have Hr3 := Lib.hid hr3
        clear hr3
        go_wp2_with fail
        go_ret
        refine ⟨v3, rfl, ?_, Mod.trans HM2.out.2 hm3 (fun _ _ h => h)⟩
        rw [Hfin.out, ← List.append_assoc (cut tl.text f g), ← List.append_assoc, Hll.out]
        have h3 := Hr3.out
        first | exact h3 | (rw [cut_from tr.text (f - ((tl.size : Int) + (own.size : Int))) 0 _ (by omega)]; exact h3)
      ·go_wp2_with fail
       go_ret
       refine ⟨v2, rfl, ?_, HM2.out.2⟩
       rw [Hfin.out, ← List.append_assoc (cut tl.text f g), ← List.append_assoc, Hll.out, cut_neg tr.text _ _ (by omega), List.append_nil]
       exact HM2.out.1
theorem RowB.convert {B : Nat} {l : List UInt8} {v : Value} {w : World} (h : RowB B l v w) : (convert 137 9 v).run Tryz.prog w = .ok (.string (bs l)) w := by
 rcases h.2.2 with ⟨rfl, hn⟩ | ⟨g, cap, cur, rfl, _, _, hnc, _⟩
 ·obtain rfl : l = [] := List.length_eq_zero_iff.1 hn
  rw [run_convert_bytes_string w _ _ _ none 0 0 Tryz.underlying137 Tryz.underlying5 Tryz.underlying9]
  simp [Conv.bytesToString]; rfl
 ·refine Go.run_convert_bytes_back w _ _ _ ⟨g, 0, none⟩ cap l Tryz.underlying137 Tryz.underlying5 Tryz.underlying9 (fun j hj => ?_)
  have e1 : (⟨g, 0, none⟩ : Addr).add j = ⟨g, j, none⟩ := by unfold Addr.add; split <;> simp_all
  rw [e1, h.2.cellAt j (by omega)]
  simp [hj]
theorem RowB.nil (w : World) : RowB w.heap.size [] (.slice none 0 0) w := ⟨Nat.le_refl _, World.ownsRow_nil w _ _ _⟩
theorem text_any (t : T) (f g : Int) (w : World) (ht : TreeAt w t) (hs : t.size ≤ 10000000) (h0 : 0 ≤ f) (h1 : g ≤ 10000000) (h2 : f ≤ 10000000) :
  Calls Tryz.prog 51 #[.pointer t.addr, .int .i64 f, .int .i64 g] w fun e w' => e = .returned (.string (bs (cut t.text f g))) ∧ Ext w w' := by
 go_enter Tryz.func51, Tryz.ntmps51
 go_wp2_with fail
 refine (lay_any t _ [] f g w.heap.size w ht ht.lt hs h0 h1 h2 (RowB.nil w) (by simp; omega)).mono ?_
 rintro e w1 ⟨v', rfl, hr, hm⟩
 rw [List.nil_append] at hr
 have hcv := hr.convert
 clear hr
 go_wp2_with fail
 go_ret
 exact ⟨rfl, hm.os, hm.tape, hm.output, hm.size, fun k hk _ => hm.block k hk (by omega)⟩
end Go.Proofs.YthlmgoagnfkhdaaGreat

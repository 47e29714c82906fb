/- What package rope's pieces computes. Conditions: at most 10000000 bytes. -/
import Derived.Test.YtbcjlbapgidhiaaGimTree
import Derived.Test.YtbcjlbapgidhiaaGimAppend
import Derived.Deep.RegionHeld3
import Derived.Outline
namespace Go.Gim
/-- The pieces as Pieces tells them: a text, its prio, its depth. -/
structure Pc where
  own : ByteArray
  prio : Int
  depth : Nat
def T.pcs : T → Nat → List Pc
  | .nil, _ => []
  | .node _ own p l r, d => l.pcs (d + 1) ++ ⟨own, p, d⟩ :: r.pcs (d + 1)
def pcCells (l : List Pc) : List Value := l.flatMap fun x => [.string x.own, .int .u32 x.prio, .int .i64 x.depth]
theorem pcCells_append (a b : List Pc) : pcCells (a ++ b) = pcCells a ++ pcCells b := by simp [pcCells]
theorem pcCells_len (a : List Pc) : (pcCells a).length = a.length * 3 := by
  induction a with
  | nil => rfl
  | cons x r ih => simp only [pcCells, List.flatMap_cons, List.length_append, List.length_cons, List.length_nil] at ih ⊢; omega
theorem pcs_own (t : T) : ∀ d, (t.pcs d).map Pc.own = t.owns := by
  induction t with
  | nil => intro d; rfl
  | node b own p l r ihl ihr => intro d; simp [T.pcs, T.owns, ihl, ihr]
theorem pcs_len (t : T) (d : Nat) : (t.pcs d).length = t.count := by
  induction t generalizing d with
  | nil => rfl
  | node b own p l r ihl ihr => simp [T.pcs, T.count, ihl, ihr]; omega
end Go.Gim
namespace Go.Proofs.Ytbcjlbapgidhiaa
open Go.RowKit Go.Gim

abbrev pieceT : TypeId := 56
theorem Try.info56 : (Try.prog.info? 56).map (fun i => (i.zero, i.size, i.bytes)) = some (some (.agg #[.string ByteArray.empty, .int .u32 0, .int .i64 0]), 3, 32) := by kernel_rfl

/-- Pieces that lie in a row of the call's own, above B. -/
def RowP (B : Nat) (l : List Pc) (v : Value) (w : World) : Prop := B ≤ w.heap.size ∧ w.ownsRow B 56 3 v l.length (pcCells l)

def PcsPost (t : T) (d : Nat) (B : Nat) (l : List Pc) (w : World) (e : Ending) (w' : World) : Prop :=
  ∃ v', e = .returned v' ∧ RowP B (l ++ t.pcs d) v' w' ∧ Mod (B ≤ ·) w w'

/-- 'append(l, Piece{..})' in a region that draws its order. -/
theorem step_append_rowP {w0 w : World} {ops : Array Oper} {o : Oper} {a : Act} {K : Act → World → Prop} {Q : Exit → Act → World → Prop} {E : Prop} (hgd : o.guard = none) (s x : Operand)
    (ho : o.op = .call { callee := .builtin .append, args := #[s, x], argTypes := #[49, 49] })
    (B : Nat) (l : List Pc) (v : Value) (hs : a.eval s = v) (hr : RowP B l v w0) (n : Nat) (own : ByteArray) (p : Int) (d : Nat)
    (hw : w = (w0.alloc (.cells #[.string own, .int .u32 p, .int .i64 d] 56)).drewN n) (hx : a.eval x = .slice (some ⟨w0.heap.size, 0, none⟩) 1 1)
    (h63 : l.length ≤ 1000000)
    (h : ∀ v' w', RowP B (l ++ [⟨own, p, d⟩]) v' w' → Mod (B ≤ ·) w0 w' → K (a.put o.dst v') w') :
    if Region.wanted o (yielded ops a.tmps) = true then Oper.wp Try.prog o a w K Q else E := by
  have hx0 : Ext w0 w := by rw [hw]; exact ((Mod.refl _ w0).alloc _).drewN n
  have hr2 : RowP B l v w := ⟨Nat.le_trans hr.1 hx0.size, ownsRow_mod hr.2 hx0 (fun _ _ f => f)⟩
  refine step_append_reads hgd s x 49 ho B 56 _ 3 32 Try.info56 Try.underlying49 rfl (by omega) v _ _ hs hr2.2 _ 1 1 [.string own, .int .u32 p, .int .i64 d] hx ?_ ?_ (by unfold maxLen; omega) (by omega) hr2.1 fun v' w' k1 k2 _ => ?_
  · rw [hw]
    have := Reads.new w0 56 #[.string own, .int .u32 p, .int .i64 d] 3 1 rfl
    exact this
  · intro u hu; simp only [List.mem_cons, List.not_mem_nil, or_false] at hu; rcases hu with rfl | rfl | rfl <;> rfl
  · refine h v' w' ⟨Nat.le_trans hr2.1 k2.size, ?_⟩ (Mod.trans hx0.any k2 (fun k _ hk => (hr2.2.lt k hk).1))
    rw [pcCells_append, List.length_append]
    exact k1

set_option maxHeartbeats 3200000 in
set_option maxRecDepth 1000000 in
theorem pieces_any : ∀ (t : T) (v : Value) (l : List Pc) (d : Nat) (B : Nat) (w : World), TreeAt w t → (∀ k ∈ t.blocks, k < B) → RowP B l v w → l.length + t.count ≤ 1000000 → d + t.count ≤ 1000000 →
    Calls Try.prog 67 #[.pointer t.addr, v, .int .i64 d] w (PcsPost t d B l w) := by
  intro t
  induction t with
  | nil =>
    intro v l d B w ht hlt hr hl hd
    show Calls _ _ #[.pointer none, v, .int .i64 d] _ _
    have HR := Lib.hid hr
    clear ht hlt hr hl hd
    go_enter Try.func67, Try.ntmps67
    go_wp2_with fail
    go_ret
    exact ⟨v, rfl, by simpa [T.pcs] using HR.out, Mod.refl _ _⟩
  | node b own p tl tr ihl ihr =>
    intro v l d B w ht hlt hr hl hd
    show Calls _ _ #[.pointer (some ⟨b, 0, none⟩), v, .int .i64 d] _ _
    obtain ⟨_, c4, _, c9, c10, c11⟩ := Blk.node ht.1
    have hbB : b < B := hlt b (by simp [T.blocks])
    have HR := Lib.hid hr
    have Ihl := Lib.hid ihl
    have Ihr := Lib.hid ihr
    have HT := Lib.hid ht
    have hcnt : (T.node b own p tl tr).count = tl.count + tr.count + 1 := rfl
    rw [hcnt] at hl hd
    clear hr ihl ihr ht hcnt
    go_enter Try.func67, Try.ntmps67
    go_wp2_with fail
    refine (Ihl.out v l (d + 1) B _ HT.out.2.1 (fun k hk => hlt k (by simp [T.blocks, hk])) HR.out (by omega) (by omega)).mono ?_
    rintro e w1 ⟨v1, rfl, hr1, hm1⟩
    have ht1 := HT.out.mod hm1 (fun k hk => by have := hlt k hk; omega)
    have hl1 := pcs_len tl (d + 1)
    have hll : (l ++ tl.pcs (d + 1)).length + tr.count + 1 ≤ 1000000 := by rw [List.length_append, hl1]; omega
    clear hl1 c4 c9 c10 c11
    obtain ⟨_, c4, _, c9, c10, c11⟩ := Blk.node ht1.1
    have hb1 := Blk.lt ht1.1
    have HT1 := Lib.hid ht1
    have hkeep : ∀ w2 : World, Mod (B ≤ ·) w1 w2 → (w2.cell? ⟨b, 4, none⟩ = some (.string own) ∧ w2.cell? ⟨b, 9, none⟩ = some (.int .u32 p) ∧ w2.cell? ⟨b, 11, none⟩ = some (.pointer tr.addr)) := fun w2 h =>
      ⟨(h.cell (p := ⟨b, 4, none⟩) hb1 (Nat.not_le.2 hbB)).trans c4, (h.cell (p := ⟨b, 9, none⟩) hb1 (Nat.not_le.2 hbB)).trans c9, (h.cell (p := ⟨b, 11, none⟩) hb1 (Nat.not_le.2 hbB)).trans c11⟩
    have Hkeep := Lib.hid hkeep
    clear ht1 hkeep
    go_wp2_with fail
    go_region_held3 (fun w' => w'.cell? ⟨b, 4, none⟩ = some (.string own) ∧ w'.cell? ⟨b, 9, none⟩ = some (.int .u32 p) ∧ w'.cell? ⟨b, 11, none⟩ = some (.pointer tr.addr)) (first | go_keep | exact Hkeep.out _ (by assumption))
      ((refine step_append_rowP (by rfl) _ _ (by rfl) B (l ++ tl.pcs (d + 1)) v1 (by rfl) hr1 _ own p d (by rfl) (by rfl) (by omega) ?_; intro v2 w2 hr2 hm2))
    have ht2 := HT1.out.mod hm2 (fun k hk => by have := hlt k hk; omega)
    have hl2 : (l ++ tl.pcs (d + 1) ++ [(⟨own, p, d⟩ : Pc)]).length + tr.count ≤ 1000000 := by rw [List.length_append]; simp only [List.length_cons, List.length_nil]; omega
    have HT2 := Lib.hid ht2
    have Hr2 := Lib.hid hr2
    clear ht2 hr2
    go_wp2_with fail
    refine (Ihr.out v2 _ (d + 1) B _ HT2.out.2.2 (fun k hk => hlt k (by simp [T.blocks, hk])) Hr2.out hl2 (by omega)).mono ?_
    rintro e w3 ⟨v3, rfl, hr3, hm3⟩
    have Hr3 := Lib.hid hr3
    clear hr3
    go_wp2_with fail
    go_ret
    refine ⟨v3, rfl, ?_, Mod.trans (Mod.trans hm1 hm2 (fun _ _ h => h)) hm3 (fun _ _ h => h)⟩
    have h3 := Hr3.out
    rw [List.append_assoc, List.append_assoc] at h3
    exact h3
end Go.Proofs.Ytbcjlbapgidhiaa

/- What package rope's pieces computes. Conditions: at most 10000000 bytes. -/
import Derived.Test.YthlmgoagnfkhdaaGreatGimG09
import Derived.Test.YthlmgoagnfkhdaaGreatGimG02
import Derived.Test.YthlmgoagnfkhdaaGreatGimG07
import Derived.Deep.RegionHeld3
import Derived.Outline
set_option maxHeartbeats 6400000
set_option maxRecDepth 1000000
set_option linter.unusedVariables false
set_option linter.unusedSimpArgs false
namespace Go.Gim
structure Pc where
 own : ByteArray
 prio : Int
 depth : Nat
def T.pcs : T → Nat → List Pc
 | .nil, _ => []
 | .node _ own p l r, d => l.pcs (d + 1) ++ ⟨own, p, d⟩ :: r.pcs (d + 1)
theorem pcs_own (t : T) : ∀ d, (t.pcs d).map Pc.own = t.owns := by
 induction t with
 | nil => intro d; rfl
 | node b own p l r ihl ihr => intro d; simp [T.pcs, T.owns, ihl, ihr]
theorem pcs_len (t : T) (d : Nat) : (t.pcs d).length = t.count := by
 induction t generalizing d with
 | nil => rfl
 | node b own p l r ihl ihr => simp [T.pcs, T.count, ihl, ihr]; omega
end Go.Gim
namespace Go.Proofs.YthlmgoagnfkhdaaGreat
open Go.RowKit Go.Gim
def PartPost (C : T → T → Prop) (t : T) (w : World) (e : Ending) (w' : World) : Prop :=
 ∃ l r, e = .returned (.tuple #[.pointer l.addr, .pointer r.addr]) ∧ Parted t l r ∧ C l r ∧ TreeAt w' l ∧ TreeAt w' r ∧ Mod (· ∈ t.blocks) w w'
theorem node_nodup {b : Nat} {own : ByteArray} {p : Int} {l r : T} (h : (T.node b own p l r).blocks.Nodup) : b ∉ l.blocks ∧ b ∉ r.blocks ∧ l.blocks.Nodup ∧ r.blocks.Nodup ∧ (∀ k, k ∈ l.blocks → ¬ k ∈ r.blocks) := by
 rw [show (T.node b own p l r).blocks = b :: (l.blocks ++ r.blocks) from rfl, List.nodup_cons, List.nodup_append] at h
 obtain ⟨h1, h2, h3, h4⟩ := h
 exact ⟨fun hk => h1 (List.mem_append_left _ hk), fun hk => h1 (List.mem_append_right _ hk), h2, h3, fun k hk hk2 => h4 k hk k hk2 rfl⟩
theorem ends_any : ∀ (t : T) (a : Int) (w : World), TreeAt w t → t.blocks.Nodup → t.size ≤ 10000000 → 0 ≤ a → a ≤ 10000000 →
  Calls Tryz.prog 107 #[.pointer t.addr, .int .i64 a] w (PartPost (EndsAt a) t w) := by
 intro t
 induction t with
 | nil =>
  intro a w ht hnd hs h0 ha
  show Calls _ _ #[.pointer none, .int .i64 a] _ _
  clear ht hnd hs
  go_enter Tryz.func107, Tryz.ntmps107
  go_wp2_with fail
  go_ret2
  exact ⟨.nil, .nil, rfl, .nil, .nil h0, trivial, trivial, Mod.refl _ _⟩
 | node b own p tl tr ihl ihr =>
  intro a w ht hnd hs h0 ha
  show Calls _ _ #[.pointer (some ⟨b, 0, none⟩), .int .i64 a] _ _
  obtain ⟨_, c4, _, c9, c10, c11⟩ := Blk.node ht.1
  obtain ⟨n1, n2, n3, n4, n5⟩ := node_nodup hnd
  have hsz := T.size_node b own p tl tr
  by_cases hlt : ((tl.size : Int) + (own.size : Int)) ≤ a
  ·go_enter Tryz.func107, Tryz.ntmps107
   go_wp2_with fail
   go_quiet (exact Calls.quiet_of_same (size_any tl _ (ht.2.1.drewN _)))
   go_wp2_with fail
   refine (ihr _ _ (ht.2.2.drewN nq) n4 (by omega) (by omega) (by omega)).mono ?_
   rintro e w1 ⟨l, r, rfl, hP, hC, hl, hr, hm⟩
   have hmw := hm.of_drewN
   have hB := Blk.mod ht.1 hmw n2
   have e11 := hB.cell 11
   have g11 := hB.free 11
   have g3 := hB.lt
   have nl : b ∉ l.blocks := fun hk => n2 (hP.blocks.mem_iff.1 (List.mem_append_left _ hk))
   have nr : b ∉ r.blocks := fun hk => n2 (hP.blocks.mem_iff.1 (List.mem_append_right _ hk))
   obtain ⟨hB2, htl2, hl2⟩ := relink_r ht hmw n2 n5 hl n1 nl
   have hsz2 : tl.size + own.size + l.size ≤ 10000000 := by have := hP.size; omega
   go_wp2_with fail
   refine (pull_any b own p tl l _ _ hB2 htl2 hl2 n1 nl hsz2).mono ?_
   rintro e w3 ⟨rfl, hm3, hT⟩
   go_wp2_with fail
   go_ret2
   refine ⟨.node b own p tl l, r, rfl, hP.right, hC.right, hT, (hr.mod ((Mod.refl (· = b) w1).setCell (fun _ => rfl) _) (fun k hk e => nr (e ▸ hk))).mod hm3 (fun k hk e => nr (e ▸ hk)), ?_⟩
   refine Mod.trans ((hmw.mono (T := (· ∈ (T.node b own p tl tr).blocks)) (fun k _ hk => ?_)).setCell (p := ⟨b, 11, none⟩) (fun _ => ?_) _) hm3 (fun k _ hk => ?_)
   ·simp only [T.blocks, List.mem_append, List.mem_cons]; exact .inr (.inr hk)
   ·simp [T.blocks]
   ·subst hk; simp [T.blocks]
  ·go_enter Tryz.func107, Tryz.ntmps107
   go_wp2_with fail
   go_quiet (exact Calls.quiet_of_same (size_any tl _ (ht.2.1.drewN _)))
   go_wp2_with fail
   refine (ihl _ _ (ht.2.1.drewN nq) n3 (by omega) (by omega) (by omega)).mono ?_
   rintro e w1 ⟨l, r, rfl, hP, hC, hl, hr, hm⟩
   have hmw := hm.of_drewN
   have hB := Blk.mod ht.1 hmw n1
   have e10 := hB.cell 10
   have g10 := hB.free 10
   have g3 := hB.lt
   have nl : b ∉ l.blocks := fun hk => n1 (hP.blocks.mem_iff.1 (List.mem_append_left _ hk))
   have nr : b ∉ r.blocks := fun hk => n1 (hP.blocks.mem_iff.1 (List.mem_append_right _ hk))
   obtain ⟨hB2, hr2, htr2⟩ := relink_l ht hmw n1 (fun k hk hk2 => n5 k hk2 hk) hr n2 nr
   have hsz2 : r.size + own.size + tr.size ≤ 10000000 := by have := hP.size; omega
   go_wp2_with fail
   refine (pull_any b own p r tr _ _ hB2 hr2 htr2 nr n2 hsz2).mono ?_
   rintro e w3 ⟨rfl, hm3, hT⟩
   go_wp2_with fail
   go_ret2
   refine ⟨l, .node b own p r tr, rfl, hP.left, hC.left hP (by omega), (hl.mod ((Mod.refl (· = b) w1).setCell (fun _ => rfl) _) (fun k hk e => nl (e ▸ hk))).mod hm3 (fun k hk e => nl (e ▸ hk)), hT, ?_⟩
   refine Mod.trans ((hmw.mono (T := (· ∈ (T.node b own p tl tr).blocks)) (fun k _ hk => ?_)).setCell (p := ⟨b, 10, none⟩) (fun _ => ?_) _) hm3 (fun k _ hk => ?_)
   ·simp only [T.blocks, List.mem_append, List.mem_cons]; exact .inr (.inl hk)
   ·simp [T.blocks]
   ·subst hk; simp [T.blocks]
theorem begins_any : ∀ (t : T) (a : Int) (w : World), TreeAt w t → t.blocks.Nodup → t.size ≤ 10000000 → -100000000 ≤ a → a ≤ 10000000 →
  Calls Tryz.prog 108 #[.pointer t.addr, .int .i64 a] w (PartPost (BeginsAt a) t w) := by
 intro t
 induction t with
 | nil =>
  intro a w ht hnd hs h0 ha
  show Calls _ _ #[.pointer none, .int .i64 a] _ _
  clear ht hnd hs
  go_enter Tryz.func108, Tryz.ntmps108
  go_wp2_with fail
  go_ret2
  exact ⟨.nil, .nil, rfl, .nil, .nil, trivial, trivial, Mod.refl _ _⟩
 | node b own p tl tr ihl ihr =>
  intro a w ht hnd hs h0 ha
  show Calls _ _ #[.pointer (some ⟨b, 0, none⟩), .int .i64 a] _ _
  obtain ⟨_, c4, _, c9, c10, c11⟩ := Blk.node ht.1
  have hlt0 := Blk.lt ht.1
  obtain ⟨n1, n2, n3, n4, n5⟩ := node_nodup hnd
  have hsz := T.size_node b own p tl tr
  by_cases hlt : (tl.size : Int) < a
  ·go_enter Tryz.func108, Tryz.ntmps108
   go_wp2_with fail
   refine (size_any tl _ ht.2.1).mono ?_
   rintro e w' ⟨rfl, rfl⟩
   go_wp2_with fail
   have hwr : IntKind.i64.wrap (IntKind.i64.wrap (a - (tl.size : Int)) - (own.size : Int)) = a - (tl.size : Int) - (own.size : Int) := by
    rw [IntWalk.i64_in (a - (tl.size : Int)) ⟨by omega, by omega⟩, IntWalk.i64_in _ ⟨by omega, by omega⟩]
   have hcell : ∀ w1 : World, Mod (· ∈ tr.blocks) (w'.drewN 1) w1 → w1.cell? ⟨b, 4, none⟩ = some (.string own) ∧ w1.cell? ⟨b, 11, none⟩ = some (.pointer tr.addr) := fun w1 h =>
    ⟨(h.cell (p := ⟨b, 4, none⟩) hlt0 n2).trans c4, (h.cell (p := ⟨b, 11, none⟩) hlt0 n2).trans c11⟩
   go_region_held3 (fun w1 => w1.cell? ⟨b, 4, none⟩ = some (.string own) ∧ w1.cell? ⟨b, 11, none⟩ = some (.pointer tr.addr)) (first | exact hcell _ (by assumption) | go_keep)
    (first | (go_at_call 108; refine (ihr _ _ (ht.2.2.drewN 1) n4 (by omega) (by omega) (by omega)).mono ?_; rintro e w1 ⟨l, r, rfl, hP, hC, hl, hr, hm⟩))
   have hmw := hm.of_drewN
   have hB := Blk.mod ht.1 hmw n2
   have e11 := hB.cell 11
   have g11 := hB.free 11
   have g3 := hB.lt
   have nl : b ∉ l.blocks := fun hk => n2 (hP.blocks.mem_iff.1 (List.mem_append_left _ hk))
   have nr : b ∉ r.blocks := fun hk => n2 (hP.blocks.mem_iff.1 (List.mem_append_right _ hk))
   obtain ⟨hB2, htl2, hl2⟩ := relink_r ht hmw n2 n5 hl n1 nl
   have hsz2 : tl.size + own.size + l.size ≤ 10000000 := by have := hP.size; omega
   go_wp2_with fail
   refine (pull_any b own p tl l _ _ hB2 htl2 hl2 n1 nl hsz2).mono ?_
   rintro e w3 ⟨rfl, hm3, hT⟩
   go_wp2_with fail
   go_ret2
   refine ⟨.node b own p tl l, r, rfl, hP.right, hC.right hlt, hT, (hr.mod ((Mod.refl (· = b) w1).setCell (fun _ => rfl) _) (fun k hk e => nr (e ▸ hk))).mod hm3 (fun k hk e => nr (e ▸ hk)), ?_⟩
   refine Mod.trans ((hmw.mono (T := (· ∈ (T.node b own p tl tr).blocks)) (fun k _ hk => ?_)).setCell (p := ⟨b, 11, none⟩) (fun _ => ?_) _) hm3 (fun k _ hk => ?_)
   ·simp only [T.blocks, List.mem_append, List.mem_cons]; exact .inr (.inr hk)
   ·simp [T.blocks]
   ·subst hk; simp [T.blocks]
  ·go_enter Tryz.func108, Tryz.ntmps108
   go_wp2_with fail
   refine (size_any tl _ ht.2.1).mono ?_
   rintro e w' ⟨rfl, rfl⟩
   go_wp2_with fail
   refine (ihl _ _ ht.2.1 n3 (by omega) (by omega) (by omega)).mono ?_
   rintro e w1 ⟨l, r, rfl, hP, hC, hl, hr, hm⟩
   have hmw := hm
   have hB := Blk.mod ht.1 hmw n1
   have e10 := hB.cell 10
   have g10 := hB.free 10
   have g3 := hB.lt
   have nl : b ∉ l.blocks := fun hk => n1 (hP.blocks.mem_iff.1 (List.mem_append_left _ hk))
   have nr : b ∉ r.blocks := fun hk => n1 (hP.blocks.mem_iff.1 (List.mem_append_right _ hk))
   obtain ⟨hB2, hr2, htr2⟩ := relink_l ht hmw n1 (fun k hk hk2 => n5 k hk2 hk) hr n2 nr
   have hsz2 : r.size + own.size + tr.size ≤ 10000000 := by have := hP.size; omega
   go_wp2_with fail
   refine (pull_any b own p r tr _ _ hB2 hr2 htr2 nr n2 hsz2).mono ?_
   rintro e w3 ⟨rfl, hm3, hT⟩
   go_wp2_with fail
   go_ret2
   refine ⟨l, .node b own p r tr, rfl, hP.left, hC.left hP (by omega), (hl.mod ((Mod.refl (· = b) w1).setCell (fun _ => rfl) _) (fun k hk e => nl (e ▸ hk))).mod hm3 (fun k hk e => nl (e ▸ hk)), hT, ?_⟩
   refine Mod.trans ((hmw.mono (T := (· ∈ (T.node b own p tl tr).blocks)) (fun k _ hk => ?_)).setCell (p := ⟨b, 10, none⟩) (fun _ => ?_) _) hm3 (fun k _ hk => ?_)
   ·simp only [T.blocks, List.mem_append, List.mem_cons]; exact .inr (.inl hk)
   ·simp [T.blocks]
   ·subst hk; simp [T.blocks]
def FreshPost (D : Dice) (s : ByteArray) (w : World) (e : Ending) (w' : World) : Prop :=
 ∃ b, e = .returned (.pointer (some ⟨b, 0, none⟩)) ∧ w.heap.size ≤ b ∧ TreeAt w' (.node b s D.tells .nil .nil) ∧ DiceAt w' D.then ∧ Mod (· = D.d) w w'
theorem fresh_any (D : Dice) (s : ByteArray) (w : World) (hD : DiceAt w D) (hs : s.size ≤ 1000000) :
  Calls Tryz.prog 109 #[.pointer (some ⟨D.d, 0, none⟩), .string s] w (FreshPost D s w) := by
 go_enter Tryz.func109, Tryz.ntmps109
 go_wp2_with fail
 refine (of_any s _ hs).mono ?_
 rintro e w1 ⟨rfl, hx1⟩
 go_wp2_with fail
 generalize hw2 : w1.alloc _ = w2
 have hb : Blk w2 w1.heap.size 147 (#[Value.int IntKind.i64 ((byt (s.data.toList) : Nat) : Int), Value.int IntKind.i64 ((brk (s.data.toList) : Nat) : Int), Value.int IntKind.i64 ((run (s.data.toList) : Nat) : Int), Value.int IntKind.i64 ((unt (s.data.toList) : Nat) : Int)] : Array Value) := by rw [← hw2]; exact Blk.new _ _ _
 have hx2 : Ext w w2 := by rw [← hw2]; exact hx1.alloc _
 have hD2 := (hD.ext hx2).drewN 1
 have hsz := hx1.size
 have hDl := hD.blk.lt
 clear hw2
 have hne : ¬ w1.heap.size = D.d := by omega
 have hS : ∀ w3 : World, Mod (· = D.d) (w2.drewN 1) w3 → w3.cell? ⟨w1.heap.size, 0, none⟩ = some (.int .i64 (byt s.data.toList : Nat)) ∧ w3.cell? ⟨w1.heap.size, 1, none⟩ = some (.int .i64 (brk s.data.toList : Nat)) ∧ w3.cell? ⟨w1.heap.size, 2, none⟩ = some (.int .i64 (run s.data.toList : Nat)) ∧ w3.cell? ⟨w1.heap.size, 3, none⟩ = some (.int .i64 (unt s.data.toList : Nat)) := fun w3 h =>
  have h' := (Blk.tal (hb.mod (h.of_drewN) hne))
  ⟨h'.1, h'.2.1, h'.2.2.1, h'.2.2.2.1⟩
 obtain ⟨c0, c1, c2, c3, _⟩ := hb.tal
 go_region_held3 (fun w3 => w3.cell? ⟨w1.heap.size, 0, none⟩ = some (.int .i64 (byt s.data.toList : Nat)) ∧ w3.cell? ⟨w1.heap.size, 1, none⟩ = some (.int .i64 (brk s.data.toList : Nat)) ∧ w3.cell? ⟨w1.heap.size, 2, none⟩ = some (.int .i64 (run s.data.toList : Nat)) ∧ w3.cell? ⟨w1.heap.size, 3, none⟩ = some (.int .i64 (unt s.data.toList : Nat))) (first | exact hS _ (by assumption) | go_keep)
  (first | (go_at_call 143; refine (next_at _ _ hD2).mono ?_; rintro e w3 ⟨rfl, hD3, hm3⟩))
 go_wp2_with fail
 go_ret
 have hB := Blk.new w3 nodeT (#[Value.int IntKind.i64 ((byt (s.data.toList) : Nat) : Int), Value.int IntKind.i64 ((brk (s.data.toList) : Nat) : Int), Value.int IntKind.i64 ((run (s.data.toList) : Nat) : Int), Value.int IntKind.i64 ((unt (s.data.toList) : Nat) : Int), Value.string s, Value.int IntKind.i64 ((byt ((Array.toList (ByteArray.data s))) : Nat) : Int), Value.int IntKind.i64 ((brk ((Array.toList (ByteArray.data s))) : Nat) : Int), Value.int IntKind.i64 ((run ((Array.toList (ByteArray.data s))) : Nat) : Int), Value.int IntKind.i64 ((unt ((Array.toList (ByteArray.data s))) : Nat) : Int), Value.int IntKind.u32 D.tells, .pointer none, .pointer none] : Array Value)
 have hm : Mod (· = D.d) w w3 := Mod.trans (hx2.any) hm3.of_drewN (fun _ _ h => h)
 refine ⟨w3.heap.size, rfl, hm.size, ⟨?_, trivial, trivial⟩, hD3.ext ((Mod.refl _ w3).alloc _), hm.alloc _⟩
 simpa [T.text, NodeAt, T.addr] using hB
end Go.Proofs.YthlmgoagnfkhdaaGreat

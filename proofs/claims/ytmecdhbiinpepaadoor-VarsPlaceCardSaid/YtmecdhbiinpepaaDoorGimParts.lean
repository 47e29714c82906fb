/- What package rope's ends and begins compute. Conditions: at most 10000000 bytes. -/
import Derived.Test.YtmecdhbiinpepaaDoorGimMerge
import Derived.Deep.RegionHeld3
namespace Go.Proofs.YtmecdhbiinpepaaDoor
open Go.RowKit Go.Gim

def PartPost (C : T → T → Prop) (t : T) (w : World) (e : Ending) (w' : World) : Prop :=
  ∃ l r, e = .returned (.tuple #[.pointer l.addr, .pointer r.addr]) ∧ Parted t l r ∧ C l r ∧ TreeAt w' l ∧ TreeAt w' r ∧ Mod (· ∈ t.blocks) w w'

theorem node_nodup {b : Nat} {own : ByteArray} {p : Int} {l r : T} (h : (T.node b own p l r).blocks.Nodup) : b ∉ l.blocks ∧ b ∉ r.blocks ∧ l.blocks.Nodup ∧ r.blocks.Nodup ∧ (∀ k, k ∈ l.blocks → ¬ k ∈ r.blocks) := by
  rw [show (T.node b own p l r).blocks = b :: (l.blocks ++ r.blocks) from rfl, List.nodup_cons, List.nodup_append] at h
  obtain ⟨h1, h2, h3, h4⟩ := h
  exact ⟨fun hk => h1 (List.mem_append_left _ hk), fun hk => h1 (List.mem_append_right _ hk), h2, h3, fun k hk hk2 => h4 k hk k hk2 rfl⟩

set_option maxHeartbeats 1600000 in
set_option maxRecDepth 1000000 in
theorem ends_any : ∀ (t : T) (a : Int) (w : World), TreeAt w t → t.blocks.Nodup → t.size ≤ 10000000 → 0 ≤ a → a ≤ 10000000 →
    Calls Tryd.prog 72 #[.pointer t.addr, .int .i64 a] w (PartPost (EndsAt a) t w) := by
  intro t
  induction t with
  | nil =>
    intro a w ht hnd hs h0 ha
    show Calls _ _ #[.pointer none, .int .i64 a] _ _
    clear ht hnd hs
    go_enter Tryd.func72, Tryd.ntmps72
    go_wp2_with fail
    go_ret2
    exact ⟨.nil, .nil, rfl, .nil, .nil h0, trivial, trivial, Mod.refl _ _⟩
  | node b own p tl tr ihl ihr =>
    intro a w ht hnd hs h0 ha
    show Calls _ _ #[.pointer (some ⟨b, 0, none⟩), .int .i64 a] _ _
    obtain ⟨_, c4, _, c9, c10, c11⟩ := Blk.node ht.1
    obtain ⟨n1, n2, n3, n4, n5⟩ := node_nodup hnd
    have hsz := T.size_node b own p tl tr
    by_cases hlt : ((tl.size : Int) + (own.size : Int)) ≤ a
    · go_enter Tryd.func72, Tryd.ntmps72
      go_wp2_with fail
      go_quiet (exact Calls.quiet_of_same (size_any tl _ (ht.2.1.drewN _)))
      go_wp2_with fail
      refine (ihr _ _ (ht.2.2.drewN nq) n4 (by omega) (by omega) (by omega)).mono ?_
      rintro e w1 ⟨l, r, rfl, hP, hC, hl, hr, hm⟩
      have hmw := hm.of_drewN
      have hB := Blk.mod ht.1 hmw n2
      have e11 := hB.cell 11
      have g11 := hB.free 11
      have g3 := hB.lt
      have nl : b ∉ l.blocks := fun hk => n2 (hP.blocks.mem_iff.1 (List.mem_append_left _ hk))
      have nr : b ∉ r.blocks := fun hk => n2 (hP.blocks.mem_iff.1 (List.mem_append_right _ hk))
      obtain ⟨hB2, htl2, hl2⟩ := relink_r ht hmw n2 n5 hl n1 nl
      have hsz2 : tl.size + own.size + l.size ≤ 10000000 := by have := hP.size; omega
      go_wp2_with fail
      refine (pull_any b own p tl l _ _ hB2 htl2 hl2 n1 nl hsz2).mono ?_
      rintro e w3 ⟨rfl, hm3, hT⟩
      go_wp2_with fail
      go_ret2
      refine ⟨.node b own p tl l, r, rfl, hP.right, hC.right, hT, (hr.mod ((Mod.refl (· = b) w1).setCell (fun _ => rfl) _) (fun k hk e => nr (e ▸ hk))).mod hm3 (fun k hk e => nr (e ▸ hk)), ?_⟩
      refine Mod.trans ((hmw.mono (T := (· ∈ (T.node b own p tl tr).blocks)) (fun k _ hk => ?_)).setCell (p := ⟨b, 11, none⟩) (fun _ => ?_) _) hm3 (fun k _ hk => ?_)
      · simp only [T.blocks, List.mem_append, List.mem_cons]; exact .inr (.inr hk)
      · simp [T.blocks]
      · subst hk; simp [T.blocks]
    · go_enter Tryd.func72, Tryd.ntmps72
      go_wp2_with fail
      go_quiet (exact Calls.quiet_of_same (size_any tl _ (ht.2.1.drewN _)))
      go_wp2_with fail
      refine (ihl _ _ (ht.2.1.drewN nq) n3 (by omega) (by omega) (by omega)).mono ?_
      rintro e w1 ⟨l, r, rfl, hP, hC, hl, hr, hm⟩
      have hmw := hm.of_drewN
      have hB := Blk.mod ht.1 hmw n1
      have e10 := hB.cell 10
      have g10 := hB.free 10
      have g3 := hB.lt
      have nl : b ∉ l.blocks := fun hk => n1 (hP.blocks.mem_iff.1 (List.mem_append_left _ hk))
      have nr : b ∉ r.blocks := fun hk => n1 (hP.blocks.mem_iff.1 (List.mem_append_right _ hk))
      obtain ⟨hB2, hr2, htr2⟩ := relink_l ht hmw n1 (fun k hk hk2 => n5 k hk2 hk) hr n2 nr
      have hsz2 : r.size + own.size + tr.size ≤ 10000000 := by have := hP.size; omega
      go_wp2_with fail
      refine (pull_any b own p r tr _ _ hB2 hr2 htr2 nr n2 hsz2).mono ?_
      rintro e w3 ⟨rfl, hm3, hT⟩
      go_wp2_with fail
      go_ret2
      refine ⟨l, .node b own p r tr, rfl, hP.left, hC.left hP (by omega), (hl.mod ((Mod.refl (· = b) w1).setCell (fun _ => rfl) _) (fun k hk e => nl (e ▸ hk))).mod hm3 (fun k hk e => nl (e ▸ hk)), hT, ?_⟩
      refine Mod.trans ((hmw.mono (T := (· ∈ (T.node b own p tl tr).blocks)) (fun k _ hk => ?_)).setCell (p := ⟨b, 10, none⟩) (fun _ => ?_) _) hm3 (fun k _ hk => ?_)
      · simp only [T.blocks, List.mem_append, List.mem_cons]; exact .inr (.inl hk)
      · simp [T.blocks]
      · subst hk; simp [T.blocks]

set_option maxHeartbeats 1600000 in
set_option maxRecDepth 1000000 in
theorem begins_any : ∀ (t : T) (a : Int) (w : World), TreeAt w t → t.blocks.Nodup → t.size ≤ 10000000 → -100000000 ≤ a → a ≤ 10000000 →
    Calls Tryd.prog 73 #[.pointer t.addr, .int .i64 a] w (PartPost (BeginsAt a) t w) := by
  intro t
  induction t with
  | nil =>
    intro a w ht hnd hs h0 ha
    show Calls _ _ #[.pointer none, .int .i64 a] _ _
    clear ht hnd hs
    go_enter Tryd.func73, Tryd.ntmps73
    go_wp2_with fail
    go_ret2
    exact ⟨.nil, .nil, rfl, .nil, .nil, trivial, trivial, Mod.refl _ _⟩
  | node b own p tl tr ihl ihr =>
    intro a w ht hnd hs h0 ha
    show Calls _ _ #[.pointer (some ⟨b, 0, none⟩), .int .i64 a] _ _
    obtain ⟨_, c4, _, c9, c10, c11⟩ := Blk.node ht.1
    have hlt0 := Blk.lt ht.1
    obtain ⟨n1, n2, n3, n4, n5⟩ := node_nodup hnd
    have hsz := T.size_node b own p tl tr
    by_cases hlt : (tl.size : Int) < a
    · go_enter Tryd.func73, Tryd.ntmps73
      go_wp2_with fail
      refine (size_any tl _ ht.2.1).mono ?_
      rintro e w' ⟨rfl, rfl⟩
      go_wp2_with fail
      have hwr : IntKind.i64.wrap (IntKind.i64.wrap (a - (tl.size : Int)) - (own.size : Int)) = a - (tl.size : Int) - (own.size : Int) := by
        rw [IntWalk.i64_in (a - (tl.size : Int)) ⟨by omega, by omega⟩, IntWalk.i64_in _ ⟨by omega, by omega⟩]
      have hcell : ∀ w1 : World, Mod (· ∈ tr.blocks) (w'.drewN 1) w1 → w1.cell? ⟨b, 4, none⟩ = some (.string own) ∧ w1.cell? ⟨b, 11, none⟩ = some (.pointer tr.addr) := fun w1 h =>
        ⟨(h.cell (p := ⟨b, 4, none⟩) hlt0 n2).trans c4, (h.cell (p := ⟨b, 11, none⟩) hlt0 n2).trans c11⟩
      go_region_held3 (fun w1 => w1.cell? ⟨b, 4, none⟩ = some (.string own) ∧ w1.cell? ⟨b, 11, none⟩ = some (.pointer tr.addr)) (first | exact hcell _ (by assumption) | go_keep)
        (first | (go_at_call 73; refine (ihr _ _ (ht.2.2.drewN 1) n4 (by omega) (by omega) (by omega)).mono ?_; rintro e w1 ⟨l, r, rfl, hP, hC, hl, hr, hm⟩))
      have hmw := hm.of_drewN
      have hB := Blk.mod ht.1 hmw n2
      have e11 := hB.cell 11
      have g11 := hB.free 11
      have g3 := hB.lt
      have nl : b ∉ l.blocks := fun hk => n2 (hP.blocks.mem_iff.1 (List.mem_append_left _ hk))
      have nr : b ∉ r.blocks := fun hk => n2 (hP.blocks.mem_iff.1 (List.mem_append_right _ hk))
      obtain ⟨hB2, htl2, hl2⟩ := relink_r ht hmw n2 n5 hl n1 nl
      have hsz2 : tl.size + own.size + l.size ≤ 10000000 := by have := hP.size; omega
      go_wp2_with fail
      refine (pull_any b own p tl l _ _ hB2 htl2 hl2 n1 nl hsz2).mono ?_
      rintro e w3 ⟨rfl, hm3, hT⟩
      go_wp2_with fail
      go_ret2
      refine ⟨.node b own p tl l, r, rfl, hP.right, hC.right hlt, hT, (hr.mod ((Mod.refl (· = b) w1).setCell (fun _ => rfl) _) (fun k hk e => nr (e ▸ hk))).mod hm3 (fun k hk e => nr (e ▸ hk)), ?_⟩
      refine Mod.trans ((hmw.mono (T := (· ∈ (T.node b own p tl tr).blocks)) (fun k _ hk => ?_)).setCell (p := ⟨b, 11, none⟩) (fun _ => ?_) _) hm3 (fun k _ hk => ?_)
      · simp only [T.blocks, List.mem_append, List.mem_cons]; exact .inr (.inr hk)
      · simp [T.blocks]
      · subst hk; simp [T.blocks]
    · go_enter Tryd.func73, Tryd.ntmps73
      go_wp2_with fail
      refine (size_any tl _ ht.2.1).mono ?_
      rintro e w' ⟨rfl, rfl⟩
      go_wp2_with fail
      refine (ihl _ _ ht.2.1 n3 (by omega) (by omega) (by omega)).mono ?_
      rintro e w1 ⟨l, r, rfl, hP, hC, hl, hr, hm⟩
      have hmw := hm
      have hB := Blk.mod ht.1 hmw n1
      have e10 := hB.cell 10
      have g10 := hB.free 10
      have g3 := hB.lt
      have nl : b ∉ l.blocks := fun hk => n1 (hP.blocks.mem_iff.1 (List.mem_append_left _ hk))
      have nr : b ∉ r.blocks := fun hk => n1 (hP.blocks.mem_iff.1 (List.mem_append_right _ hk))
      obtain ⟨hB2, hr2, htr2⟩ := relink_l ht hmw n1 (fun k hk hk2 => n5 k hk2 hk) hr n2 nr
      have hsz2 : r.size + own.size + tr.size ≤ 10000000 := by have := hP.size; omega
      go_wp2_with fail
      refine (pull_any b own p r tr _ _ hB2 hr2 htr2 nr n2 hsz2).mono ?_
      rintro e w3 ⟨rfl, hm3, hT⟩
      go_wp2_with fail
      go_ret2
      refine ⟨l, .node b own p r tr, rfl, hP.left, hC.left hP (by omega), (hl.mod ((Mod.refl (· = b) w1).setCell (fun _ => rfl) _) (fun k hk e => nl (e ▸ hk))).mod hm3 (fun k hk e => nl (e ▸ hk)), hT, ?_⟩
      refine Mod.trans ((hmw.mono (T := (· ∈ (T.node b own p tl tr).blocks)) (fun k _ hk => ?_)).setCell (p := ⟨b, 10, none⟩) (fun _ => ?_) _) hm3 (fun k _ hk => ?_)
      · simp only [T.blocks, List.mem_append, List.mem_cons]; exact .inr (.inl hk)
      · simp [T.blocks]
      · subst hk; simp [T.blocks]

end Go.Proofs.YtmecdhbiinpepaaDoor

/- What package rope's merge computes. Conditions: at most 10000000 bytes together. -/
import Derived.Test.YtmecdhbiinpepaaDoorGimTree
namespace Go.Proofs.YtmecdhbiinpepaaDoor
open Go.RowKit Go.Gim

/-- A node gets another tree to its right, to its left. -/
theorem relink_r {w w1 : World} {S : Nat → Prop} {b : Nat} {own : ByteArray} {p : Int} {l r t : T} (h : TreeAt w (.node b own p l r)) (hm : Mod S w w1) (hb : ¬ S b) (hl : ∀ k, k ∈ l.blocks → ¬ S k) (ht : TreeAt w1 t) (nl : b ∉ l.blocks) (nt : b ∉ t.blocks) :
    Blk (w1.setCell ⟨b, 11, none⟩ (.pointer t.addr)) b nodeT (#[Value.int IntKind.i64 ((byt (l.text ++ (own.data.toList ++ r.text)) : Nat) : Int), Value.int IntKind.i64 ((brk (l.text ++ (own.data.toList ++ r.text)) : Nat) : Int), Value.int IntKind.i64 ((run (l.text ++ (own.data.toList ++ r.text)) : Nat) : Int), Value.int IntKind.i64 ((unt (l.text ++ (own.data.toList ++ r.text)) : Nat) : Int), Value.string own, Value.int IntKind.i64 ((byt ((Array.toList (ByteArray.data own))) : Nat) : Int), Value.int IntKind.i64 ((brk ((Array.toList (ByteArray.data own))) : Nat) : Int), Value.int IntKind.i64 ((run ((Array.toList (ByteArray.data own))) : Nat) : Int), Value.int IntKind.i64 ((unt ((Array.toList (ByteArray.data own))) : Nat) : Int), Value.int IntKind.u32 p, .pointer l.addr, .pointer t.addr] : Array Value) ∧ TreeAt (w1.setCell ⟨b, 11, none⟩ (.pointer t.addr)) l ∧ TreeAt (w1.setCell ⟨b, 11, none⟩ (.pointer t.addr)) t :=
  have hs := (Mod.refl (· = b) w1).setCell (p := ⟨b, 11, none⟩) (fun _ => rfl) (.pointer t.addr)
  ⟨Blk.set (Blk.mod h.1 hm hb) 11 _, (h.2.1.mod hm hl).mod hs (fun _ hk e => nl (e ▸ hk)), ht.mod hs (fun _ hk e => nt (e ▸ hk))⟩
theorem relink_l {w w1 : World} {S : Nat → Prop} {b : Nat} {own : ByteArray} {p : Int} {l r t : T} (h : TreeAt w (.node b own p l r)) (hm : Mod S w w1) (hb : ¬ S b) (hr : ∀ k, k ∈ r.blocks → ¬ S k) (ht : TreeAt w1 t) (nr : b ∉ r.blocks) (nt : b ∉ t.blocks) :
    Blk (w1.setCell ⟨b, 10, none⟩ (.pointer t.addr)) b nodeT (#[Value.int IntKind.i64 ((byt (l.text ++ (own.data.toList ++ r.text)) : Nat) : Int), Value.int IntKind.i64 ((brk (l.text ++ (own.data.toList ++ r.text)) : Nat) : Int), Value.int IntKind.i64 ((run (l.text ++ (own.data.toList ++ r.text)) : Nat) : Int), Value.int IntKind.i64 ((unt (l.text ++ (own.data.toList ++ r.text)) : Nat) : Int), Value.string own, Value.int IntKind.i64 ((byt ((Array.toList (ByteArray.data own))) : Nat) : Int), Value.int IntKind.i64 ((brk ((Array.toList (ByteArray.data own))) : Nat) : Int), Value.int IntKind.i64 ((run ((Array.toList (ByteArray.data own))) : Nat) : Int), Value.int IntKind.i64 ((unt ((Array.toList (ByteArray.data own))) : Nat) : Int), Value.int IntKind.u32 p, .pointer t.addr, .pointer r.addr] : Array Value) ∧ TreeAt (w1.setCell ⟨b, 10, none⟩ (.pointer t.addr)) t ∧ TreeAt (w1.setCell ⟨b, 10, none⟩ (.pointer t.addr)) r :=
  have hs := (Mod.refl (· = b) w1).setCell (p := ⟨b, 10, none⟩) (fun _ => rfl) (.pointer t.addr)
  ⟨Blk.set (Blk.mod h.1 hm hb) 10 _, ht.mod hs (fun _ hk e => nt (e ▸ hk)), (h.2.2.mod hm hr).mod hs (fun _ hk e => nr (e ▸ hk))⟩

def MergePost (a b : T) (w : World) (e : Ending) (w' : World) : Prop :=
  ∃ t, e = .returned (.pointer t.addr) ∧ Merged a b t ∧ TreeAt w' t ∧ Mod (· ∈ a.blocks ++ b.blocks) w w'

set_option maxHeartbeats 1600000 in
set_option maxRecDepth 1000000 in
theorem merge_nil_left (b : T) (w : World) (hb : TreeAt w b) : Calls Tryd.prog 71 #[.pointer none, .pointer b.addr] w (MergePost .nil b w) := by
  go_enter Tryd.func71, Tryd.ntmps71
  go_wp2_with fail
  go_ret
  exact ⟨b, rfl, .nil_left b, hb, Mod.refl _ _⟩
set_option maxHeartbeats 1600000 in
set_option maxRecDepth 1000000 in
theorem merge_nil_right (ad : Addr) (a : T) (w : World) (ha : TreeAt w a) (he : a.addr = some ad) : Calls Tryd.prog 71 #[.pointer (some ad), .pointer none] w (MergePost a .nil w) := by
  have Ha := Lib.hid he
  clear he
  go_enter Tryd.func71, Tryd.ntmps71
  go_wp2_with fail
  go_ret
  exact ⟨a, by rw [Ha.out]; rfl, .nil_right a, ha, Mod.refl _ _⟩

set_option maxHeartbeats 1600000 in
set_option maxRecDepth 1000000 in
theorem merge_any : ∀ (n : Nat) (a b : T), a.count + b.count ≤ n → ∀ w, TreeAt w a → TreeAt w b → (a.blocks ++ b.blocks).Nodup → a.size + b.size ≤ 10000000 →
    Calls Tryd.prog 71 #[.pointer a.addr, .pointer b.addr] w (MergePost a b w) := by
  intro n
  induction n with
  | zero =>
    intro a b hn w ha hb _ _
    cases a with
    | nil => exact merge_nil_left b w hb
    | node => simp [T.count] at hn
  | succ n ih =>
    intro a b hn w ha hb hnd hs
    cases a with
    | nil => exact merge_nil_left b w hb
    | node ba oa pa la ra =>
      cases b with
      | nil => exact merge_nil_right _ _ w ha rfl
      | node bb ob pb lb rb =>
        show Calls _ _ #[.pointer (some ⟨ba, 0, none⟩), .pointer (some ⟨bb, 0, none⟩)] _ _
        obtain ⟨⟨c0, c1, c2, c3⟩, c4, ⟨c5, c6, c7, c8⟩, c9, c10, c11⟩ := Blk.node ha.1
        obtain ⟨_, _, _, d9, d10, d11⟩ := Blk.node hb.1
        have f11 := Blk.free ha.1 11
        have f10 := Blk.free hb.1 10
        obtain ⟨n1, nS, nSl, hndr⟩ : ba ∉ la.blocks ∧ ba ∉ ra.blocks ++ (T.node bb ob pb lb rb).blocks ∧ (∀ k ∈ la.blocks, k ∉ ra.blocks ++ (T.node bb ob pb lb rb).blocks) ∧ (ra.blocks ++ (T.node bb ob pb lb rb).blocks).Nodup := by
          have h := hnd
          rw [show (T.node ba oa pa la ra).blocks = ba :: (la.blocks ++ ra.blocks) from rfl, List.cons_append, List.nodup_cons, List.append_assoc, List.nodup_append] at h
          obtain ⟨h1, h2, h3, h4⟩ := h
          refine ⟨fun hk => h1 (List.mem_append_left _ hk), fun hk => h1 (List.mem_append_right _ hk), fun k hk hk2 => h4 k hk k hk2 rfl, h3⟩
        by_cases hp : pb ≤ pa
        · go_enter Tryd.func71, Tryd.ntmps71
          go_wp2_with fail
          go_quiet (fail)
          go_wp2_with fail
          have hsz : ra.size + (T.node bb ob pb lb rb).size ≤ 10000000 := by rw [T.size_node] at hs; omega
          refine (ih ra (.node bb ob pb lb rb) (by simp [T.count] at hn ⊢; omega) _ (ha.2.2.drewN nq) (hb.drewN nq) hndr hsz).mono ?_
          rintro e w1 ⟨t, rfl, hM, ht, hm⟩
          have hmw := hm.of_drewN
          have nt : ba ∉ t.blocks := fun hk => nS (hM.blocks.mem_iff.1 hk)
          have hB := Blk.mod ha.1 hmw nS
          have e11 := hB.cell 11
          have g11 := hB.free 11
          have g3 := hB.lt
          obtain ⟨hB2, hl2, ht2⟩ := relink_r ha hmw nS nSl ht n1 nt
          have hsz2 : la.size + oa.size + t.size ≤ 10000000 := by
            have h1 := T.size_two hM.owns
            have h2 := T.size_node ba oa pa la ra
            omega
          go_wp2_with fail
          refine (pull_any ba oa pa la t _ _ hB2 hl2 ht2 n1 nt hsz2).mono ?_
          rintro e w3 ⟨rfl, hm3, hT⟩
          go_wp2_with fail
          go_ret
          refine ⟨.node ba oa pa la t, rfl, hM.right hp, hT, ?_⟩
          refine Mod.trans ((hmw.mono (T := (· ∈ (T.node ba oa pa la ra).blocks ++ (T.node bb ob pb lb rb).blocks)) (fun k _ hk => ?_)).setCell (p := ⟨ba, 11, none⟩) (fun _ => ?_) _) hm3 (fun k _ hk => ?_)
          · simp only [T.blocks, List.mem_append, List.mem_cons] at hk ⊢
            rcases hk with h | h
            · exact .inl (.inr (.inr h))
            · exact .inr h
          · simp [T.blocks]
          · subst hk; simp [T.blocks]
        · have hp' : pa ≤ pb := by omega
          obtain ⟨n1, nS, nSr, hndl⟩ : bb ∉ rb.blocks ∧ bb ∉ (T.node ba oa pa la ra).blocks ++ lb.blocks ∧ (∀ k ∈ rb.blocks, k ∉ (T.node ba oa pa la ra).blocks ++ lb.blocks) ∧ ((T.node ba oa pa la ra).blocks ++ lb.blocks).Nodup := by
            have h := hnd
            rw [show (T.node bb ob pb lb rb).blocks = bb :: (lb.blocks ++ rb.blocks) from rfl] at h
            have h0 := (List.perm_middle (a := bb) (l₁ := (T.node ba oa pa la ra).blocks) (l₂ := lb.blocks ++ rb.blocks)).nodup_iff.1 h
            rw [List.nodup_cons, ← List.append_assoc, List.nodup_append] at h0
            obtain ⟨h1, h2, h3, h4⟩ := h0
            exact ⟨fun hk => h1 (List.mem_append_right _ hk), fun hk => h1 (List.mem_append_left _ hk), fun k hk hk2 => h4 k hk2 k hk rfl, h2⟩
          go_enter Tryd.func71, Tryd.ntmps71
          go_wp2_with fail
          go_quiet (fail)
          go_wp2_with fail
          have hsz : (T.node ba oa pa la ra).size + lb.size ≤ 10000000 := by have := T.size_node bb ob pb lb rb; omega
          refine (ih (.node ba oa pa la ra) lb (by simp [T.count] at hn ⊢; omega) _ (ha.drewN nq) (hb.2.1.drewN nq) hndl hsz).mono ?_
          rintro e w1 ⟨t, rfl, hM, ht, hm⟩
          have hmw := hm.of_drewN
          have nt : bb ∉ t.blocks := fun hk => nS (hM.blocks.mem_iff.1 hk)
          have hB := Blk.mod hb.1 hmw nS
          have e10 := hB.cell 10
          have g10 := hB.free 10
          have g3 := hB.lt
          obtain ⟨hB2, ht2, hr2⟩ := relink_l hb hmw nS nSr ht n1 nt
          have hsz2 : t.size + ob.size + rb.size ≤ 10000000 := by
            have h1 := T.size_two hM.owns
            have h2 := T.size_node bb ob pb lb rb
            omega
          go_wp2_with fail
          refine (pull_any bb ob pb t rb _ _ hB2 ht2 hr2 nt n1 hsz2).mono ?_
          rintro e w3 ⟨rfl, hm3, hT⟩
          go_wp2_with fail
          go_ret
          refine ⟨.node bb ob pb t rb, rfl, hM.left hp', hT, ?_⟩
          refine Mod.trans ((hmw.mono (T := (· ∈ (T.node ba oa pa la ra).blocks ++ (T.node bb ob pb lb rb).blocks)) (fun k _ hk => ?_)).setCell (p := ⟨bb, 10, none⟩) (fun _ => ?_) _) hm3 (fun k _ hk => ?_)
          · simp only [T.blocks, List.mem_append, List.mem_cons] at hk ⊢
            rcases hk with h | h
            · exact .inl h
            · exact .inr (.inr (.inl h))
          · simp [T.blocks]
          · subst hk; simp [T.blocks]
end Go.Proofs.YtmecdhbiinpepaaDoor

/- What package rope's merge computes. Conditions: at most 10000000 bytes together. -/
import Derived.Test.YthlmgoagnfkhdaaGreatGimF12
import Derived.Test.YthlmgoagnfkhdaaGreatGimF11
import Derived.Test.YthlmgoagnfkhdaaGreatGimF01
set_option maxHeartbeats 6400000
set_option maxRecDepth 1000000
set_option linter.unusedVariables false
set_option linter.unusedSimpArgs false
namespace Go.Proofs.YthlmgoagnfkhdaaGreat
open Go.RowKit Go.Gim
theorem relink_r {w w1 : World} {S : Nat → Prop} {b : Nat} {own : ByteArray} {p : Int} {l r t : T} (h : TreeAt w (.node b own p l r)) (hm : Mod S w w1) (hb : ¬ S b) (hl : ∀ k, k ∈ l.blocks → ¬ S k) (ht : TreeAt w1 t) (nl : b ∉ l.blocks) (nt : b ∉ t.blocks) :
  Blk (w1.setCell ⟨b, 11, none⟩ (.pointer t.addr)) b nodeT (#[Value.int IntKind.i64 ((byt (l.text ++ (own.data.toList ++ r.text)) : Nat) : Int), Value.int IntKind.i64 ((brk (l.text ++ (own.data.toList ++ r.text)) : Nat) : Int), Value.int IntKind.i64 ((run (l.text ++ (own.data.toList ++ r.text)) : Nat) : Int), Value.int IntKind.i64 ((unt (l.text ++ (own.data.toList ++ r.text)) : Nat) : Int), Value.string own, Value.int IntKind.i64 ((byt ((Array.toList (ByteArray.data own))) : Nat) : Int), Value.int IntKind.i64 ((brk ((Array.toList (ByteArray.data own))) : Nat) : Int), Value.int IntKind.i64 ((run ((Array.toList (ByteArray.data own))) : Nat) : Int), Value.int IntKind.i64 ((unt ((Array.toList (ByteArray.data own))) : Nat) : Int), Value.int IntKind.u32 p, .pointer l.addr, .pointer t.addr] : Array Value) ∧ TreeAt (w1.setCell ⟨b, 11, none⟩ (.pointer t.addr)) l ∧ TreeAt (w1.setCell ⟨b, 11, none⟩ (.pointer t.addr)) t :=
 have hs := (Mod.refl (· = b) w1).setCell (p := ⟨b, 11, none⟩) (fun _ => rfl) (.pointer t.addr)
 ⟨Blk.set (Blk.mod h.1 hm hb) 11 _, (h.2.1.mod hm hl).mod hs (fun _ hk e => nl (e ▸ hk)), ht.mod hs (fun _ hk e => nt (e ▸ hk))⟩
theorem relink_l {w w1 : World} {S : Nat → Prop} {b : Nat} {own : ByteArray} {p : Int} {l r t : T} (h : TreeAt w (.node b own p l r)) (hm : Mod S w w1) (hb : ¬ S b) (hr : ∀ k, k ∈ r.blocks → ¬ S k) (ht : TreeAt w1 t) (nr : b ∉ r.blocks) (nt : b ∉ t.blocks) :
  Blk (w1.setCell ⟨b, 10, none⟩ (.pointer t.addr)) b nodeT (#[Value.int IntKind.i64 ((byt (l.text ++ (own.data.toList ++ r.text)) : Nat) : Int), Value.int IntKind.i64 ((brk (l.text ++ (own.data.toList ++ r.text)) : Nat) : Int), Value.int IntKind.i64 ((run (l.text ++ (own.data.toList ++ r.text)) : Nat) : Int), Value.int IntKind.i64 ((unt (l.text ++ (own.data.toList ++ r.text)) : Nat) : Int), Value.string own, Value.int IntKind.i64 ((byt ((Array.toList (ByteArray.data own))) : Nat) : Int), Value.int IntKind.i64 ((brk ((Array.toList (ByteArray.data own))) : Nat) : Int), Value.int IntKind.i64 ((run ((Array.toList (ByteArray.data own))) : Nat) : Int), Value.int IntKind.i64 ((unt ((Array.toList (ByteArray.data own))) : Nat) : Int), Value.int IntKind.u32 p, .pointer t.addr, .pointer r.addr] : Array Value) ∧ TreeAt (w1.setCell ⟨b, 10, none⟩ (.pointer t.addr)) t ∧ TreeAt (w1.setCell ⟨b, 10, none⟩ (.pointer t.addr)) r :=
 have hs := (Mod.refl (· = b) w1).setCell (p := ⟨b, 10, none⟩) (fun _ => rfl) (.pointer t.addr)
 ⟨Blk.set (Blk.mod h.1 hm hb) 10 _, ht.mod hs (fun _ hk e => nt (e ▸ hk)), (h.2.2.mod hm hr).mod hs (fun _ hk e => nr (e ▸ hk))⟩
def MergePost (a b : T) (w : World) (e : Ending) (w' : World) : Prop :=
 ∃ t, e = .returned (.pointer t.addr) ∧ Merged a b t ∧ TreeAt w' t ∧ Mod (· ∈ a.blocks ++ b.blocks) w w'
theorem merge_nil_left (b : T) (w : World) (hb : TreeAt w b) : Calls Tryz.prog 106 #[.pointer none, .pointer b.addr] w (MergePost .nil b w) := by
 go_enter Tryz.func106, Tryz.ntmps106
 go_wp2_with fail
 go_ret
 exact ⟨b, rfl, .nil_left b, hb, Mod.refl _ _⟩
theorem merge_nil_right (ad : Addr) (a : T) (w : World) (ha : TreeAt w a) (he : a.addr = some ad) : Calls Tryz.prog 106 #[.pointer (some ad), .pointer none] w (MergePost a .nil w) := by
 have Ha := Lib.hid he
 clear he
 go_enter Tryz.func106, Tryz.ntmps106
 go_wp2_with fail
 go_ret
 exact ⟨a, by rw [Ha.out]; rfl, .nil_right a, ha, Mod.refl _ _⟩
theorem merge_any : ∀ (n : Nat) (a b : T), a.count + b.count ≤ n → ∀ w, TreeAt w a → TreeAt w b → (a.blocks ++ b.blocks).Nodup → a.size + b.size ≤ 10000000 →
  Calls Tryz.prog 106 #[.pointer a.addr, .pointer b.addr] w (MergePost a b w) := by
 intro n
 induction n with
 | zero =>
  intro a b hn w ha hb _ _
  cases a with
  | nil => exact merge_nil_left b w hb
  | node => simp [T.count] at hn
 | succ n ih =>
  intro a b hn w ha hb hnd hs
  cases a with
  | nil => exact merge_nil_left b w hb
  | node ba oa pa la ra =>
   cases b with
   | nil => exact merge_nil_right _ _ w ha rfl
   | node bb ob pb lb rb =>
    show Calls _ _ #[.pointer (some ⟨ba, 0, none⟩), .pointer (some ⟨bb, 0, none⟩)] _ _
    obtain ⟨⟨c0, c1, c2, c3⟩, c4, ⟨c5, c6, c7, c8⟩, c9, c10, c11⟩ := Blk.node ha.1
    obtain ⟨_, _, _, d9, d10, d11⟩ := Blk.node hb.1
    have f11 := Blk.free ha.1 11
    have f10 := Blk.free hb.1 10
    obtain ⟨n1, nS, nSl, hndr⟩ : ba ∉ la.blocks ∧ ba ∉ ra.blocks ++ (T.node bb ob pb lb rb).blocks ∧ (∀ k ∈ la.blocks, k ∉ ra.blocks ++ (T.node bb ob pb lb rb).blocks) ∧ (ra.blocks ++ (T.node bb ob pb lb rb).blocks).Nodup := by
     have h := hnd
     rw [show (T.node ba oa pa la ra).blocks = ba :: (la.blocks ++ ra.blocks) from rfl, List.cons_append, List.nodup_cons, List.append_assoc, List.nodup_append] at h
     obtain ⟨h1, h2, h3, h4⟩ := h
     refine ⟨fun hk => h1 (List.mem_append_left _ hk), fun hk => h1 (List.mem_append_right _ hk), fun k hk hk2 => h4 k hk k hk2 rfl, h3⟩
    by_cases hp : pb ≤ pa
    ·go_enter Tryz.func106, Tryz.ntmps106
     go_wp2_with fail
     go_quiet (fail)
     go_wp2_with fail
     have hsz : ra.size + (T.node bb ob pb lb rb).size ≤ 10000000 := by rw [T.size_node] at hs; omega
     refine (ih ra (.node bb ob pb lb rb) (by simp [T.count] at hn ⊢; omega) _ (ha.2.2.drewN nq) (hb.drewN nq) hndr hsz).mono ?_
     rintro e w1 ⟨t, rfl, hM, ht, hm⟩
     have hmw := hm.of_drewN
     have nt : ba ∉ t.blocks := fun hk => nS (hM.blocks.mem_iff.1 hk)
     have hB := Blk.mod ha.1 hmw nS
     have e11 := hB.cell 11
     have g11 := hB.free 11
     have g3 := hB.lt
     obtain ⟨hB2, hl2, ht2⟩ := relink_r ha hmw nS nSl ht n1 nt
     have hsz2 : la.size + oa.size + t.size ≤ 10000000 := by
      have h1 := T.size_two hM.owns
      have h2 := T.size_node ba oa pa la ra
      omega
     go_wp2_with fail
     refine (pull_any ba oa pa la t _ _ hB2 hl2 ht2 n1 nt hsz2).mono ?_
     rintro e w3 ⟨rfl, hm3, hT⟩
     go_wp2_with fail
     go_ret
     refine ⟨.node ba oa pa la t, rfl, hM.right hp, hT, ?_⟩
     refine Mod.trans ((hmw.mono (T := (· ∈ (T.node ba oa pa la ra).blocks ++ (T.node bb ob pb lb rb).blocks)) (fun k _ hk => ?_)).setCell (p := ⟨ba, 11, none⟩) (fun _ => ?_) _) hm3 (fun k _ hk => ?_)
     ·simp only [T.blocks, List.mem_append, List.mem_cons] at hk ⊢
      rcases hk with h | h
      ·exact .inl (.inr (.inr h))
      ·exact .inr h
     ·simp [T.blocks]
     ·subst hk; simp [T.blocks]
    ·have hp' : pa ≤ pb := by omega
     obtain ⟨n1, nS, nSr, hndl⟩ : bb ∉ rb.blocks ∧ bb ∉ (T.node ba oa pa la ra).blocks ++ lb.blocks ∧ (∀ k ∈ rb.blocks, k ∉ (T.node ba oa pa la ra).blocks ++ lb.blocks) ∧ ((T.node ba oa pa la ra).blocks ++ lb.blocks).Nodup := by
      have h := hnd
      rw [show (T.node bb ob pb lb rb).blocks = bb :: (lb.blocks ++ rb.blocks) from rfl] at h
      have h0 := (List.perm_middle (a := bb) (l₁ := (T.node ba oa pa la ra).blocks) (l₂ := lb.blocks ++ rb.blocks)).nodup_iff.1 h
      rw [List.nodup_cons, ← List.append_assoc, List.nodup_append] at h0
      obtain ⟨h1, h2, h3, h4⟩ := h0
      exact ⟨fun hk => h1 (List.mem_append_right _ hk), fun hk => h1 (List.mem_append_left _ hk), fun k hk hk2 => h4 k hk2 k hk rfl, h2⟩
     go_enter Tryz.func106, Tryz.ntmps106
     go_wp2_with fail
     go_quiet (fail)
     go_wp2_with fail
     have hsz : (T.node ba oa pa la ra).size + lb.size ≤ 10000000 := by have := T.size_node bb ob pb lb rb; omega
     refine (ih (.node ba oa pa la ra) lb (by simp [T.count] at hn ⊢; omega) _ (ha.drewN nq) (hb.2.1.drewN nq) hndl hsz).mono ?_
     rintro e w1 ⟨t, rfl, hM, ht, hm⟩
     have hmw := hm.of_drewN
     have nt : bb ∉ t.blocks := fun hk => nS (hM.blocks.mem_iff.1 hk)
     have hB := Blk.mod hb.1 hmw nS
     have e10 := hB.cell 10
     have g10 := hB.free 10
     have g3 := hB.lt
     obtain ⟨hB2, ht2, hr2⟩ := relink_l hb hmw nS nSr ht n1 nt
     have hsz2 : t.size + ob.size + rb.size ≤ 10000000 := by
      have h1 := T.size_two hM.owns
      have h2 := T.size_node bb ob pb lb rb
      omega
     go_wp2_with fail
     refine (pull_any bb ob pb t rb _ _ hB2 ht2 hr2 nt n1 hsz2).mono ?_
     rintro e w3 ⟨rfl, hm3, hT⟩
     go_wp2_with fail
     go_ret
     refine ⟨.node bb ob pb t rb, rfl, hM.left hp', hT, ?_⟩
     refine Mod.trans ((hmw.mono (T := (· ∈ (T.node ba oa pa la ra).blocks ++ (T.node bb ob pb lb rb).blocks)) (fun k _ hk => ?_)).setCell (p := ⟨bb, 10, none⟩) (fun _ => ?_) _) hm3 (fun k _ hk => ?_)
     ·simp only [T.blocks, List.mem_append, List.mem_cons] at hk ⊢
      rcases hk with h | h
      ·exact .inl h
      ·exact .inr (.inr (.inl h))
     ·simp [T.blocks]
     ·subst hk; simp [T.blocks]
theorem by_0 (a b c d : Int) (w : World) : Calls Tryz.prog 184 #[.agg #[.int .i64 a, .int .i64 b, .int .i64 c, .int .i64 d], .int .i64 0] w fun e w' => e = .returned (.int .i64 a) ∧ Ext w w' := by
 go_enter Tryz.func184, Tryz.ntmps184
 go_wp2_with fail
 go_ret
 exact ⟨rfl, (Mod.refl _ w).alloc _⟩
theorem by_1 (a b c d : Int) (w : World) : Calls Tryz.prog 184 #[.agg #[.int .i64 a, .int .i64 b, .int .i64 c, .int .i64 d], .int .i64 1] w fun e w' => e = .returned (.int .i64 c) ∧ Ext w w' := by
 go_enter Tryz.func184, Tryz.ntmps184
 go_wp2_with fail
 go_ret
 exact ⟨rfl, (Mod.refl _ w).alloc _⟩
theorem by_2 (a b c d : Int) (w : World) : Calls Tryz.prog 184 #[.agg #[.int .i64 a, .int .i64 b, .int .i64 c, .int .i64 d], .int .i64 2] w fun e w' => e = .returned (.int .i64 d) ∧ Ext w w' := by
 go_enter Tryz.func184, Tryz.ntmps184
 go_wp2_with fail
 go_ret
 exact ⟨rfl, (Mod.refl _ w).alloc _⟩
theorem by_3 (a b c d : Int) (w : World) : Calls Tryz.prog 184 #[.agg #[.int .i64 a, .int .i64 b, .int .i64 c, .int .i64 d], .int .i64 3] w fun e w' => e = .returned (.int .i64 b) ∧ Ext w w' := by
 go_enter Tryz.func184, Tryz.ntmps184
 go_wp2_with fail
 go_ret
 exact ⟨rfl, (Mod.refl _ w).alloc _⟩
theorem by_no (a b c d way : Int) (w : World) (h0 : (way == 0) = false) (h1 : (way == 1) = false) (h2 : (way == 2) = false) (h3 : (way == 3) = false) : Calls Tryz.prog 184 #[.agg #[.int .i64 a, .int .i64 b, .int .i64 c, .int .i64 d], .int .i64 way] w fun e w' => e = .returned (.int .i64 0) ∧ Ext w w' := by
 go_enter Tryz.func184, Tryz.ntmps184
 go_wp2_with fail
 go_ret
 exact ⟨rfl, (Mod.refl _ w).alloc _⟩
theorem by_any (l : List UInt8) (way : Int) (w : World) : Calls Tryz.prog 184 #[.agg (#[Value.int IntKind.i64 ((byt (l) : Nat) : Int), Value.int IntKind.i64 ((brk (l) : Nat) : Int), Value.int IntKind.i64 ((run (l) : Nat) : Int), Value.int IntKind.i64 ((unt (l) : Nat) : Int)] : Array Value), .int .i64 way] w fun e w' => e = .returned (.int .i64 (byW way l : Nat)) ∧ Ext w w' := by
 unfold byW
 by_cases h0 : way = 0
 ·subst h0; exact by_0 _ _ _ _ w
 by_cases h1 : way = 1
 ·subst h1; exact by_1 _ _ _ _ w
 by_cases h2 : way = 2
 ·subst h2; exact by_2 _ _ _ _ w
 by_cases h3 : way = 3
 ·subst h3; exact by_3 _ _ _ _ w
 rw [if_neg h0, if_neg h1, if_neg h2, if_neg h3]
 exact by_no _ _ _ _ way w (by simpa using h0) (by simpa using h1) (by simpa using h2) (by simpa using h3)
def IsInt (n : Int) : Prop := -9223372036854775808 ≤ n ∧ n ≤ 9223372036854775807
theorem IsInt.sub {n : Int} (h : IsInt n) {b : Nat} (h0 : 0 ≤ n) (hb : b ≤ 1000000000) : wrap64 (n - (b : Int)) = n - (b : Int) := by
 unfold IsInt at h
 exact IntWalk.wrap64_in _ ⟨by omega, by omega⟩
theorem IsInt.sub' {n : Int} (h : IsInt n) {b : Nat} (h0 : 0 ≤ n) (hb : b ≤ 1000000000) : IsInt (n - (b : Int)) := by
 unfold IsInt at h ⊢; omega
theorem IsInt.small {n : Int} (h0 : -1000000000 ≤ n) (h1 : n ≤ 1000000000) : IsInt n := by unfold IsInt; omega
theorem tallyUpto_any (s : ByteArray) (way : Int) (n : Nat) (w : World) (h0 : 0 ≤ way) (h3 : way ≤ 3) (hs : s.size ≤ 1000000) (hni : IsInt n) : Calls Tryz.prog 185 #[.string s, .int .i64 way, .int .i64 n] w fun e w' => e = .returned (.int .i64 (upto way s.data.toList n : Nat)) ∧ Ext w w' := by
 have hn0 : (0 : Int) ≤ (n : Int) := Int.natCast_nonneg _
 generalize hL : s.data.toList = L
 have HL := Lib.hid hL
 clear hL
 generalize hU : upto way L n = U
 have HU := Lib.hid hU
 clear hU
 go_enter Tryz.func185, Tryz.ntmps185
 go_wp2_with fail
 go_loopw [7, 8] (fun p q wr => ∃ k m : Nat, k ≤ s.size ∧ q = .int .i64 k ∧ p = .int .i64 m ∧ Hid (U = k + upto way (L.drop k) m ∧ Ext w wr ∧ IsInt m)) (fun _ q _ => s.size - (intOf q).toNat)
 case atStart => exact ⟨0, n, by omega, rfl, rfl, Lib.hid ⟨by rw [← HU.out]; simp, Mod.refl _ _, hni⟩⟩
 case round =>
  obtain ⟨k, m, hk, rfl, rfl, HR⟩ := hrel
  by_cases hlt : k < s.size
  ·have hlt' : (k : Int) < (s.size : Int) := by omega
   have hdr : L.drop k = s[k] :: L.drop (k + 1) := by
    rw [← HL.out, List.drop_eq_getElem_cons (by simpa using hlt)]; rfl
   have Hdr := Lib.hid hdr
   clear hdr
   have hb2 : byW way [s[k]] ≤ 2 := by have := byW_le way [s[k]]; simpa using this
   go_wp2_with fail
   refine (byteTally_any s[k] _).mono ?_
   rintro e w1 ⟨rfl, hx1⟩
   go_wp2_with fail
   refine (by_any [s[k]] way _).mono ?_
   rintro e w2 ⟨rfl, hx2⟩
   generalize hB : byW way [s[k]] = B at *
   have HB := Lib.hid hB
   clear hB
   by_cases hm : (m : Int) < (B : Int)
   ·go_wp2_with fail
    go_ret
    refine ⟨ret_int ?_, (HR.out.2.1.ext_trans hx1).ext_trans hx2⟩
    rw [HR.out.1, Hdr.out, upto, HB.out, if_pos (by omega)]; simp
   ·go_wp2_with fail
    go_roundw
    case rel =>
     have hi := HR.out.2.2
     have e : ((m - B : Nat) : Int) = (m : Int) - (B : Int) := by omega
     refine ⟨k + 1, m - B, by omega, by go_num, ?_, Lib.hid ⟨?_, (HR.out.2.1.ext_trans hx1).ext_trans hx2, ?_⟩⟩
     ·rw [hi.sub (by omega) (by omega), e]
     ·rw [HR.out.1, Hdr.out, upto, HB.out, if_neg (by omega)]; omega
     ·rw [e]; exact hi.sub' (by omega) (by omega)
    case measure => simp [intOf]; omega
  ·have hlt' : ¬ (k : Int) < (s.size : Int) := by omega
   go_wp2_with fail
   go_ret
   refine ⟨ret_int ?_, HR.out.2.1⟩
   rw [HR.out.1, List.drop_of_length_le (by rw [← HL.out, toList_length]; omega)]
   simp only [upto]; omega
end Go.Proofs.YthlmgoagnfkhdaaGreat

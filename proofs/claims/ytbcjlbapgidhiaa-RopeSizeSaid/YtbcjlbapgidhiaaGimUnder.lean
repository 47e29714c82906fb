/- What gimletlaw3's under answers of the pieces of a treap: true. Conditions: at most 1000000 pieces. -/
import Derived.Test.YtbcjlbapgidhiaaGimPieces
import Derived.Test.YtbcjlbapgidhiaaGimDice
import Derived.Deep.LoopGhost
import Derived.Deep.DeepCutAuto
import Derived.Outline
namespace Go.Gim
open Go Go.RowKit
theorem pcCells_cons (x : Pc) (r : List Pc) : pcCells (x :: r) = .string x.own :: .int .u32 x.prio :: .int .i64 x.depth :: pcCells r := rfl
theorem pcCells_at (L : List Pc) : ∀ (i : Nat) (x : Pc), L[i]? = some x → (pcCells L)[i * 3]? = some (.string x.own) ∧ (pcCells L)[i * 3 + 1]? = some (.int .u32 x.prio) ∧ (pcCells L)[i * 3 + 2]? = some (.int .i64 x.depth) := by
  induction L with
  | nil => intro i x h; simp at h
  | cons y r ih =>
    intro i x h
    cases i with
    | zero => simp at h; subst h; exact ⟨rfl, rfl, rfl⟩
    | succ i =>
      have := ih i x (by simpa using h)
      rw [pcCells_cons, show (i + 1) * 3 = i * 3 + 1 + 1 + 1 from by omega, show i * 3 + 1 + 1 + 1 + 1 = i * 3 + 1 + 1 + 1 + 1 from rfl]
      exact this
/-- A piece that is read: its cells. -/
theorem reads_piece {w : World} {b off n : Nat} {L : List Pc} (h : Reads w 3 (some ⟨b, off, none⟩) n (pcCells L)) {i : Nat} {x : Pc} (hx : L[i]? = some x) :
    w.cell? ⟨b, off + i * 3, none⟩ = some (.string x.own) ∧ w.cell? ⟨b, off + i * 3 + 1, none⟩ = some (.int .u32 x.prio) ∧ w.cell? ⟨b, off + i * 3 + 2, none⟩ = some (.int .i64 x.depth) := by
  have hi := (List.getElem?_eq_some_iff.1 hx).1
  have hl := pcCells_len L
  have hn : 0 < n := by have := h.1; omega
  obtain ⟨b', off', he, hc⟩ := h.2 hn
  cases he
  obtain ⟨h1, h2, h3⟩ := pcCells_at L i x hx
  exact ⟨by rw [hc _ (by omega)]; exact h1, by rw [Nat.add_assoc, hc _ (by omega)]; exact h2, by rw [Nat.add_assoc, hc _ (by omega)]; exact h3⟩
theorem pcs_deep (t : T) : ∀ (d : Nat) (x : Pc), x ∈ t.pcs d → d ≤ x.depth := by
  induction t with
  | nil => intro d x h; cases h
  | node b own p l r ihl ihr =>
    intro d x h
    simp only [T.pcs, List.mem_append, List.mem_cons] at h
    rcases h with h | rfl | h
    · have := ihl _ x h; omega
    · exact Nat.le_refl _
    · have := ihr _ x h; omega
/-- A tree's pieces stand in a list from lo on. -/
def Stand (L : List Pc) (lo : Nat) (l : List Pc) : Prop := ∀ j x, l[j]? = some x → L[lo + j]? = some x
theorem Stand.left {L : List Pc} {lo : Nat} {a b : List Pc} (h : Stand L lo (a ++ b)) : Stand L lo a := fun j x hx => h j x (by rw [List.getElem?_append_left (List.getElem?_eq_some_iff.1 hx).1, hx])
theorem Stand.right {L : List Pc} {lo : Nat} {a b : List Pc} (h : Stand L lo (a ++ b)) : Stand L (lo + a.length) b := fun j x hx => by
  have := h (a.length + j) x (by rw [List.getElem?_append_right (by omega), Nat.add_sub_cancel_left, hx])
  rwa [← Nat.add_assoc] at this
theorem Stand.tail {L : List Pc} {lo : Nat} {a : Pc} {b : List Pc} (h : Stand L lo (a :: b)) : Stand L (lo + 1) b := Stand.right (a := [a]) h
theorem Stand.head {L : List Pc} {lo : Nat} {a : Pc} {b : List Pc} (h : Stand L lo (a :: b)) : L[lo]? = some a := h 0 a rfl
end Go.Gim
namespace Go.Proofs.Ytbcjlbapgidhiaa
open Go.RowKit Go.Gim

set_option maxHeartbeats 1600000 in
set_option maxRecDepth 1000000 in
theorem under_any : ∀ (t : T) (L : List Pc) (ao : Option Addr) (cap : Nat) (lo hi deep prio : Int) (w : World), Reads w 3 ao L.length (pcCells L) → 0 ≤ lo → hi = lo + t.count → hi ≤ 1000000 → 0 ≤ deep → deep + t.count ≤ 1000000 → Stand L lo.toNat (t.pcs deep.toNat) → t.Heap → t.Le prio →
    Calls Try.prog 62 #[.slice ao L.length cap, .int .i64 lo, .int .i64 hi, .int .i64 deep, .int .u32 prio] w fun e w' => e = .returned (.bool true) ∧ w' = w := by
  intro t
  induction t with
  | nil =>
    intro L ao cap lo hi deep prio w hr h0 hhi hh hd hd2 hs hheap hle
    obtain rfl : hi = lo := by rw [hhi]; simp [T.count]
    clear hhi hs hr
    go_enter Try.func62, Try.ntmps62
    go_wp2_with fail
    refine wp_loop_rounds 1 ?_
    rw [rounds_succ]
    go_wp2_with fail
    go_ret
    exact ⟨rfl, rfl⟩
  | node b own p tl tr ihl ihr =>
    intro L ao cap lo hi deep prio w hr h0 hhi hh hd hd2 hs hheap hle
    obtain ⟨lo, rfl⟩ := Int.eq_ofNat_of_zero_le h0
    obtain ⟨deep, rfl⟩ := Int.eq_ofNat_of_zero_le hd
    rw [Int.toNat_natCast, Int.toNat_natCast] at hs
    have hcnt : (T.node b own p tl tr).count = tl.count + tr.count + 1 := rfl
    have hpl := pcs_len tl (deep + 1)
    have hpr := pcs_len tr (deep + 1)
    have hs1 : Stand L lo (tl.pcs (deep + 1)) := hs.left
    have hs2 : Stand L (lo + tl.count) (⟨own, p, deep⟩ :: tr.pcs (deep + 1)) := by have := hs.right; rwa [hpl] at this
    have hroot := hs2.head
    have hs3 := hs2.tail
    have hL := (List.getElem?_eq_some_iff.1 hroot).1
    obtain ⟨g, off, rfl⟩ := hr.some (by omega)
    have hpp : p ≤ prio := hle
    obtain ⟨hh1, hh2, hh3, hh4⟩ := hheap
    have il := ihl L (some ⟨g, off, none⟩) cap lo (lo + tl.count) (deep + 1) p w hr (by omega) rfl (by omega) (by omega) (by omega) (by rw [show ((deep : Int) + 1).toNat = deep + 1 from by omega]; exact hs1) hh3 hh1
    have ir := ihr L (some ⟨g, off, none⟩) cap (lo + tl.count + 1) hi (deep + 1) p w hr (by omega) (by rw [hhi, hcnt]; omega) (by omega) (by omega) (by omega) (by
      rw [show ((deep : Int) + 1).toNat = deep + 1 from by omega, show ((lo : Int) + tl.count + 1).toNat = lo + tl.count + 1 from by omega]; exact hs3) hh4 hh2
    obtain ⟨m, hm⟩ : ∃ m, m = lo + tl.count := ⟨_, rfl⟩
    rw [show ((lo : Int) + (tl.count : Int)) = (m : Int) from by omega] at il ir
    rw [← hm] at hroot hL
    obtain ⟨_, r1, r2⟩ := reads_piece hr hroot
    have HR := Lib.hid hr
    have hq : ∀ k : Nat, lo ≤ k → k < hi → k ≠ m → ∃ x : Pc, L[k]? = some x ∧ deep < x.depth := by
      intro k k1 k2 k3
      by_cases hkm : k < m
      · have hj : k - lo < (tl.pcs (deep + 1)).length := by omega
        refine ⟨(tl.pcs (deep + 1))[k - lo], ?_, pcs_deep tl _ _ (List.getElem_mem hj)⟩
        have := hs1 (k - lo) _ (List.getElem?_eq_getElem hj)
        rwa [show lo + (k - lo) = k from by omega] at this
      · have hj : k - (m + 1) < (tr.pcs (deep + 1)).length := by omega
        refine ⟨(tr.pcs (deep + 1))[k - (m + 1)], ?_, pcs_deep tr _ _ (List.getElem_mem hj)⟩
        have := hs3 (k - (m + 1)) _ (List.getElem?_eq_getElem hj)
        rwa [show lo + tl.count + 1 + (k - (m + 1)) = k from by omega] at this
    have Hq := Lib.hid hq
    have hiL : hi ≤ (L.length : Int) := by
      rcases Nat.eq_zero_or_pos tr.count with h0 | h0
      · omega
      · have hj : tr.count - 1 < (tr.pcs (deep + 1)).length := by omega
        have := (List.getElem?_eq_some_iff.1 (hs3 (tr.count - 1) _ (List.getElem?_eq_getElem hj))).1
        omega
    have hm1 : lo ≤ m := by omega
    have hm2 : (m : Int) < hi := by omega
    have hlh : (lo : Int) < hi := by omega
    have Il := Lib.hid il
    have Ir := Lib.hid ir
    clear il ir
    have hd3 : deep + 1 ≤ 1000000 := by omega
    clear hd2 hroot hq hm hr hs hs1 hs2 hs3 hhi ihl ihr hpl hpr hcnt
    go_enter Try.func62, Try.ntmps62
    go_wp2_with fail
    go_loop [11, 12] (fun s1 s2 => ∃ k : Nat, lo ≤ k ∧ (k : Int) ≤ hi ∧ s2 = .int .i64 k ∧ ((k ≤ m ∧ s1 = .int .i64 (-1)) ∨ (m < k ∧ s1 = .int .i64 m))) (fun _ s2 => (hi - intOf s2).toNat)
    case atStart => exact ⟨lo, by omega, by omega, rfl, .inl ⟨hm1, rfl⟩⟩
    case round =>
      obtain ⟨k, hk1, hk2, rfl, hroots⟩ := hrel
      by_cases hk : (k : Int) < hi
      · have hk0 : (0 : Int) ≤ (k : Int) := by omega
        have hkl : (k : Int) < (L.length : Int) := by omega
        by_cases hkm : k = m
        · subst hkm
          rcases hroots with ⟨_, rfl⟩ | ⟨h1, _⟩
          · have hb : ((deep : Int) == (deep : Int)) = true := by simp
            have hb1 : ¬ ((deep : Int) < (deep : Int)) := by omega
            go_wp2_with fail
            go_round
            case rel => exact ⟨k + 1, by omega, by omega, by go_num, .inr ⟨by omega, rfl⟩⟩
            case measure => simp [intOf]; omega
          · exact absurd h1 (Nat.lt_irrefl _)
        · obtain ⟨x, hx, hxd⟩ := Hq.out k hk1 hk hkm
          obtain ⟨_, _, q2⟩ := reads_piece HR.out hx
          have hb : ((x.depth : Int) == (deep : Int)) = false := by simp; omega
          have hb1 : ¬ ((x.depth : Int) < (deep : Int)) := by omega
          clear hx
          rcases hroots with ⟨h1, rfl⟩ | ⟨h1, rfl⟩
          · go_wp2_with fail
            go_round
            case rel => exact ⟨k + 1, by omega, by omega, by go_num, .inl ⟨by omega, rfl⟩⟩
            case measure => simp [intOf]; omega
          · go_wp2_with fail
            go_round
            case rel => exact ⟨k + 1, by omega, by omega, by go_num, .inr ⟨by omega, rfl⟩⟩
            case measure => simp [intOf]; omega
      · rcases hroots with ⟨h1, _⟩ | ⟨h1, rfl⟩
        · exact absurd hk (by omega)
        · have hm0 : (0 : Int) ≤ (m : Int) := by omega
          have hml : (m : Int) < (L.length : Int) := by omega
          go_wp2_with fail
          refine Il.out.mono ?_
          rintro e w' ⟨rfl, rfl⟩
          go_wp2_with fail
          refine Ir.out.mono ?_
          rintro e w' ⟨rfl, rfl⟩
          go_wp2_with fail
          go_ret
          exact ⟨rfl, rfl⟩

end Go.Proofs.Ytbcjlbapgidhiaa

/- What package rope's first and last compute: the lengths of a tree's outer pieces. Conditions: none. -/
import Derived.Test.YtbcjlbapgidhiaaGimParts
import Derived.Deep.LoopGhost
namespace Go.Proofs.Ytbcjlbapgidhiaa
open Go.RowKit Go.Gim

set_option maxHeartbeats 1600000 in
set_option maxRecDepth 1000000 in
theorem last_any (t : T) (w : World) (h : TreeAt w t) (hn : t.isNil = false) : Calls Try.prog 81 #[.pointer t.addr] w fun e w' => e = .returned (.int .i64 (lastLen t.owns : Nat)) ∧ w' = w := by
  generalize hL : lastLen t.owns = L
  have HL := Lib.hid hL
  clear hL
  go_enter Try.func81, Try.ntmps81
  go_wp2_with fail
  go_loopg [0] t.count (fun k p wr => ∃ u : T, p = .pointer u.addr ∧ u.isNil = false ∧ u.count = k ∧ wr = w ∧ TreeAt w u ∧ Hid (lastLen u.owns = L))
  case atStart => exact ⟨t, rfl, hn, rfl, rfl, h, HL⟩
  case round =>
    clear h hn HL
    obtain ⟨u, rfl, hu, hk, rfl, hT, HL⟩ := hrel
    cases u with
    | nil => simp [T.isNil] at hu
    | node b own p ul ur =>
      obtain ⟨_, c4, _, _, _, c11⟩ := Blk.node hT.1
      clear hu
      cases ur with
      | nil =>
        have e : own.size = L := by
          have h1 := HL.out
          simp only [T.owns] at h1
          rw [lastLen_single] at h1
          exact h1
        have E := Lib.hid e
        clear e HL
        simp only [T.addr] at c11 ⊢
        go_wp2_with fail
        go_ret
        exact ⟨ret_int (by rw [E.out]), rfl⟩
      | node b2 own2 p2 ul2 ur2 =>
        have e : lastLen (T.node b2 own2 p2 ul2 ur2).owns = L := by
          have h1 := HL.out
          rw [← h1]
          simp only [T.owns]
          rw [lastLen_append_cons, lastLen_append_cons]
          cases hq : ul2.owns with
          | nil => rw [List.nil_append, lastLen_cons_cons]
          | cons x q => rw [List.cons_append, lastLen_cons_cons, ← List.cons_append, lastLen_append_cons]
        have E := Lib.hid e
        have K := Lib.hid hk
        have hT2 := hT.2.2
        clear e HL hk
        simp only [T.addr] at c11 ⊢
        go_wp2_with fail
        go_roundg ((T.node b2 own2 p2 ul2 ur2).count)
        case rel => exact ⟨_, rfl, rfl, rfl, rfl, hT2, E⟩
        case measure => have := K.out; simp only [T.count] at this ⊢; omega
set_option maxHeartbeats 1600000 in
set_option maxRecDepth 1000000 in
theorem first_any (t : T) (w : World) (h : TreeAt w t) (hn : t.isNil = false) : Calls Try.prog 82 #[.pointer t.addr] w fun e w' => e = .returned (.int .i64 (firstLen t.owns : Nat)) ∧ w' = w := by
  generalize hL : firstLen t.owns = L
  have HL := Lib.hid hL
  clear hL
  go_enter Try.func82, Try.ntmps82
  go_wp2_with fail
  go_loopg [0] t.count (fun k p wr => ∃ u : T, p = .pointer u.addr ∧ u.isNil = false ∧ u.count = k ∧ wr = w ∧ TreeAt w u ∧ Hid (firstLen u.owns = L))
  case atStart => exact ⟨t, rfl, hn, rfl, rfl, h, HL⟩
  case round =>
    clear h hn HL
    obtain ⟨u, rfl, hu, hk, rfl, hT, HL⟩ := hrel
    cases u with
    | nil => simp [T.isNil] at hu
    | node b own p ul ur =>
      obtain ⟨_, c4, _, _, c11, _⟩ := Blk.node hT.1
      clear hu
      cases ul with
      | nil =>
        have e : own.size = L := by
          have h1 := HL.out
          simp only [T.owns] at h1
          exact h1
        have E := Lib.hid e
        clear e HL
        simp only [T.addr] at c11 ⊢
        go_wp2_with fail
        go_ret
        exact ⟨ret_int (by rw [E.out]), rfl⟩
      | node b2 own2 p2 ul2 ur2 =>
        have e : firstLen (T.node b2 own2 p2 ul2 ur2).owns = L := by
          have h1 := HL.out
          rw [← h1]
          rw [show (T.node b own p (T.node b2 own2 p2 ul2 ur2) ur).owns = (T.node b2 own2 p2 ul2 ur2).owns ++ own :: ur.owns from rfl, firstLen_append (by simp [T.owns])]
        have E := Lib.hid e
        have K := Lib.hid hk
        have hT2 := hT.2.1
        clear e HL hk
        simp only [T.addr] at c11 ⊢
        go_wp2_with fail
        go_roundg ((T.node b2 own2 p2 ul2 ur2).count)
        case rel => exact ⟨_, rfl, rfl, rfl, rfl, hT2, E⟩
        case measure => have := K.out; simp only [T.count] at this ⊢; omega
end Go.Proofs.Ytbcjlbapgidhiaa

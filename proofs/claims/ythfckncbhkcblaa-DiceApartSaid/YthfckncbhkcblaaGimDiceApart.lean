/- Two dice of the same numbers tell the same, however they are asked by turns: the walk. Conditions: none. -/
import Derived.Test.YthfckncbhkcblaaGimDiceAwake
import Derived.Test.YthfckncbhkcblaaGimAppend
namespace Go.Proofs.Ythfckncbhkcblaa
open Go.RowKit Go.Gim

/-- How many were told, and the last one, behind p calls. -/
def dl (zs : List Int) : Nat → Nat × Int
  | 0 => (0, 0)
  | p + 1 => if (dl zs p).1 < zs.length then ((dl zs p).1 + 1, zs.getD (dl zs p).1 0) else ((dl zs p).1, Dice.succ (dl zs p).2)
/-- The number that the call behind p calls tells. -/
def dv (zs : List Int) (p : Nat) : Int := if (dl zs p).1 < zs.length then zs.getD (dl zs p).1 0 else Dice.succ (dl zs p).2
theorem dl_told (zs : List Int) (p : Nat) : (dl zs p).1 = min p zs.length := by
  induction p with
  | zero => simp [dl]
  | succ p ih => simp only [dl]; split <;> simp only <;> omega
theorem dice_then (d : Nat) (sv : Value) (zs : List Int) (p : Nat) : Dice.then ⟨d, sv, zs, (dl zs p).1, (dl zs p).2⟩ = ⟨d, sv, zs, (dl zs (p + 1)).1, (dl zs (p + 1)).2⟩ := by
  simp only [Dice.then, dl]; split <;> simp
theorem dice_tells (d : Nat) (sv : Value) (zs : List Int) (p : Nat) : Dice.tells ⟨d, sv, zs, (dl zs p).1, (dl zs p).2⟩ = dv zs p := rfl
theorem dice_left (d : Nat) (sv : Value) (zs : List Int) (p : Nat) : Dice.left ⟨d, sv, zs, (dl zs p).1, (dl zs p).2⟩ = zs.length - p := by
  simp only [Dice.left, dl_told]; omega
def told (zs : List Int) (p : Nat) : List Value := (List.range p).map fun i => .int .u32 (dv zs i)
theorem told_succ (zs : List Int) (p : Nat) : told zs p ++ [.int .u32 (dv zs p)] = told zs (p + 1) := by simp [told, List.range_succ]
theorem told_at (zs : List Int) (p i : Nat) (h : i < p) : (told zs p)[i]? = some (.int .u32 (dv zs i)) := by simp [told, h]

set_option maxHeartbeats 1600000 in
set_option maxRecDepth 1000000 in
theorem diceApart_long (w : World) (ao bo : Option Addr) (len cap ln cp : Nat) (hl : 60 < len ∨ len ≤ 60 ∧ 120 < ln) (hm : len ≤ 9223372036854775807) (hm2 : ln ≤ 9223372036854775807) :
    Calls Try.prog 5 #[.slice ao len cap, .slice bo ln cp] w fun e w' => e = .returned (.bool true) ∧ Ext w w' := by
  rcases hl with hl | ⟨hl, hl2⟩
  · have hd : (60 : Int) < (len : Int) := by omega
    go_enter Try.func5, Try.ntmps5
    go_wp2_with fail
    refine (awake1_any _).mono ?_
    rintro e w' ⟨rfl, hx⟩
    go_wp2_with fail
    go_ret
    exact ⟨rfl, hx⟩
  · have hd : ¬ ((60 : Int) < (len : Int)) := by omega
    have hd2 : (120 : Int) < (ln : Int) := by omega
    go_enter Try.func5, Try.ntmps5
    go_wp2_with fail
    refine (awake1_any _).mono ?_
    rintro e w' ⟨rfl, hx⟩
    go_wp2_with fail
    go_ret
    exact ⟨rfl, hx⟩

/-- What holds in each round of the first loop. -/
structure Turns (w : World) (zs : List Int) (d1 d2 : Nat) (sv1 sv2 : Value) (x y : Value) (p q : Nat) (wr : World) : Prop where
  A : DiceAt wr ⟨d1, sv1, zs, (dl zs p).1, (dl zs p).2⟩
  B : DiceAt wr ⟨d2, sv2, zs, (dl zs q).1, (dl zs q).2⟩
  X : wr.ownsRow w.heap.size 26 1 x p (told zs p)
  Y : wr.ownsRow w.heap.size 26 1 y q (told zs q)
  xy : ∀ g, x.ownBlock = some g → y.ownBlock ≠ some g
  xd : ∀ g, x.ownBlock = some g → g ≠ d1 ∧ g ≠ d2 ∧ sv1.ownBlock ≠ some g ∧ sv2.ownBlock ≠ some g
  yd : ∀ g, y.ownBlock = some g → g ≠ d1 ∧ g ≠ d2 ∧ sv1.ownBlock ≠ some g ∧ sv2.ownBlock ≠ some g
  E : Ext w wr
  dd : d1 ≠ d2 ∧ sv1.ownBlock ≠ some d2 ∧ sv2.ownBlock ≠ some d1
  lo : w.heap.size ≤ d1 ∧ w.heap.size ≤ d2

theorem Turns.swap {w : World} {zs : List Int} {d1 d2 : Nat} {sv1 sv2 x y : Value} {p q : Nat} {wr : World} (h : Turns w zs d1 d2 sv1 sv2 x y p q wr) : Turns w zs d2 d1 sv2 sv1 y x q p wr :=
  ⟨h.B, h.A, h.Y, h.X, fun g hg hx => h.xy g hx hg, fun g hg => ⟨(h.yd g hg).2.1, (h.yd g hg).1, (h.yd g hg).2.2.2, (h.yd g hg).2.2.1⟩, fun g hg => ⟨(h.xd g hg).2.1, (h.xd g hg).1, (h.xd g hg).2.2.2, (h.xd g hg).2.2.1⟩, h.E,
    ⟨fun e => h.dd.1 e.symm, h.dd.2.2, h.dd.2.1⟩, ⟨h.lo.2, h.lo.1⟩⟩

theorem Turns.step {w : World} {zs : List Int} {d1 d2 : Nat} {sv1 sv2 x y : Value} {p q : Nat} {wr : World} (h : Turns w zs d1 d2 sv1 sv2 x y p q wr)
    {w2 w3 : World} {o : Obj} {x' : Value} (hm1 : Mod (· = d1) wr w2) (hD : DiceAt w2 (Dice.then ⟨d1, sv1, zs, (dl zs p).1, (dl zs p).2⟩))
    (hown : w3.ownsRow w.heap.size 26 1 x' (p + 1) (told zs p ++ [.int .u32 (dv zs p)])) (hm3 : Mod (fun k => x.ownBlock = some k) (w2.alloc o) w3)
    (hb : x'.ownBlock = x.ownBlock ∨ ∀ k, x'.ownBlock = some k → (w2.alloc o).heap.size ≤ k) : Turns w zs d1 d2 sv1 sv2 x' y (p + 1) q w3 := by
  have h1 : Mod (· = d1) wr (w2.alloc o) := hm1.alloc o
  have hE3 : Ext w w3 := (h.E.trans h1 (fun i hi (e : i = d1) => by have := h.lo.1; omega)).trans hm3 (fun i hi e => by have := (h.X.lt i e).1; omega)
  have hsz := h1.size
  have l1 := h.A.blk.lt
  have l2 := h.B.blk.lt
  have s1 : ∀ k, sv1.ownBlock = some k → k < wr.heap.size := fun k hk => (h.A.row.lt k hk).2
  have s2 : ∀ k, sv2.ownBlock = some k → k < wr.heap.size := fun k hk => (h.B.row.lt k hk).2
  have yl : ∀ k, y.ownBlock = some k → k < wr.heap.size := fun k hk => (h.Y.lt k hk).2
  rw [dice_then] at hD
  rw [told_succ] at hown
  simp only at l1 l2
  refine ⟨?_, ?_, hown, ?_, ?_, ?_, h.yd, hE3, h.dd, h.lo⟩
  · exact (hD.ext ((Mod.refl _ w2).alloc o)).mod hm3 (fun e => (h.xd _ e).1 rfl) (fun k hk e => (h.xd k e).2.2.1 hk)
  · exact (h.B.mod h1 (fun (e : d2 = d1) => h.dd.1 e.symm) (fun k hk (e : k = d1) => h.dd.2.2 (by rw [← e]; exact hk))).mod hm3 (fun e => (h.xd _ e).2.1 rfl) (fun k hk e => (h.xd k e).2.2.2 hk)
  · exact ownsRow_mod (ownsRow_mod h.Y h1 (fun k hk (e : k = d1) => (h.yd k hk).1 e)) hm3 (fun k hk e => h.xy k e hk)
  · intro g hg
    rcases hb with hb | hb
    · exact h.xy g (by rw [← hb]; exact hg)
    · intro hy; have := hb g hg; have := yl g hy; omega
  · intro g hg
    rcases hb with hb | hb
    · exact h.xd g (by rw [← hb]; exact hg)
    · have := hb g hg
      exact ⟨by omega, by omega, fun e => by have := s1 g e; omega, fun e => by have := s2 g e; omega⟩

set_option maxHeartbeats 1600000 in
set_option maxRecDepth 1000000 in
theorem diceApart_any (w : World) (ao bo : Option Addr) (cap cp : Nat) (zs : List Int) (ts : List Bool) (hl : zs.length ≤ 60) (hl2 : ts.length ≤ 120)
    (hr : Reads w 1 ao zs.length (zs.map (Value.int .u32))) (hr2 : Reads w 1 bo ts.length (ts.map Value.bool)) :
    Calls Try.prog 5 #[.slice ao zs.length cap, .slice bo ts.length cp] w fun e w' => e = .returned (.bool true) ∧ Ext w w' := by
  have hd : ¬ ((60 : Int) < (zs.length : Int)) := by omega
  have hd2 : ¬ ((120 : Int) < (ts.length : Int)) := by omega
  go_enter Try.func5, Try.ntmps5
  go_wp2_with fail
  refine (new_any _ _ _ zs (by omega) hr).mono ?_
  rintro e w1 ⟨d1, sv1, rfl, hD1, hx1, hd1, hs1⟩
  go_wp2_with fail
  refine (new_any _ _ _ zs (by omega) (hr.mod hx1 (fun _ _ f => f))).mono ?_
  rintro e w2 ⟨d2, sv2, rfl, hD2, hx2, hd2', hs2⟩
  have hT : Turns w zs d1 d2 sv1 sv2 (.slice none 0 0) (.slice none 0 0) 0 0 w2 := by
    have l1 := hD1.blk.lt
    have s1 : ∀ k, sv1.ownBlock = some k → k < w1.heap.size := fun k hk => (hD1.row.lt k hk).2
    simp only at l1
    have := hx1.size
    refine ⟨hD1.ext hx2, hD2, World.ownsRow_nil _ _ _ _, World.ownsRow_nil _ _ _ _, (fun g h => by cases h), (fun g h => by cases h), (fun g h => by cases h), hx1.ext_trans hx2, ⟨by omega, fun e => by have := s1 _ e; omega, fun e => by have := hs2 _ e; omega⟩, ⟨hd1, by omega⟩⟩
  clear hD1 hD2 hx1 hx2 hs1 hs2 hd1 hd2'
  go_wp2_with fail
  go_loopw [7, 8, 9] (fun sx sy i wr => ∃ (k p q : Nat) (ax ay : Option Addr) (cx cy : Nat), k ≤ ts.length ∧ p + q = k ∧ i = .int .i64 k ∧ sx = .slice ax p cx ∧ sy = .slice ay q cy ∧ Turns w zs d1 d2 sv1 sv2 (.slice ax p cx) (.slice ay q cy) p q wr) (fun _ _ i _ => ts.length - (intOf i).toNat)
  case atStart => exact ⟨0, 0, 0, none, none, 0, 0, Nat.zero_le _, rfl, rfl, rfl, rfl, hT⟩
  case round =>
    clear hT
    obtain ⟨k, p, q, ax, ay, cx, cy, hk, hpq, rfl, rfl, rfl, hT⟩ := hrel
    by_cases hlt : k < ts.length
    · have hlt' : (k : Int) < (ts.length : Int) := by omega
      have hrr := hr2.mod hT.E (fun _ _ f => f)
      obtain ⟨b, off, rfl⟩ := hr2.some (by omega)
      obtain ⟨tk, htk⟩ : ∃ tk, ts[k]? = some tk := ⟨ts[k], List.getElem?_eq_getElem hlt⟩
      have hc := hrr.at (j := k) (v := .bool tk) (by simp [htk])
      clear hrr htk
      cases tk
      · go_wp2_with fail
        refine (next_at _ _ hT.B).mono ?_
        rintro e w3 ⟨rfl, hD, hm⟩
        rw [dice_tells]
        have hX := (ownsRow_mod hT.Y hm (fun g hg (e : g = d2) => (hT.yd g hg).2.1 e)).alloc (.cells #[.int .u32 (dv zs q)] 26)
        have hrn := Reads.new w3 26 #[.int .u32 (dv zs q)] 1 1 rfl
        have hone : ∀ u ∈ [Value.int .u32 (dv zs q)], u.oneCell' = true := by intro u hu; simp at hu; subst hu; rfl
        have hb1 : q + 1 ≤ maxLen := by unfold maxLen; omega
        have hb2 : (q + 1) * 4 ≤ 140737488355328 := by omega
        have hb3 : w.heap.size ≤ (w3.alloc (.cells #[.int .u32 (dv zs q)] 26)).heap.size := by
          have h1 := hT.E.size
          have h2 := hm.size
          simp; omega
        go_wp2_with (at_builtin; refine wpList_append_reads rfl _ _ 22 rfl w.heap.size 26 (.int .u32 0) 1 4 Try.info26 Try.underlying22 rfl (by decide) _ _ _ rfl hX (some ⟨w3.heap.size, 0, none⟩) 1 1 [.int .u32 (dv zs q)] rfl hrn hone hb1 hb2 hb3 ?_)
        intro v' w4 hown hm4 hbk
        obtain ⟨ay', cy', rfl, _, _⟩ := ownsRow_shape hown
        have hT2 := (hT.swap.step hm hD hown hm4 (by simpa using hbk)).swap
        clear hown hm4 hbk hX hrn hone hb1 hb2 hb3 hT hD hm
        go_wp2_with fail
        go_roundw
        case rel => exact ⟨k + 1, p, q + 1, ax, ay', cx, cy', by omega, by omega, by go_num, by first | rfl | go_num, by first | rfl | go_num, hT2⟩
        case measure => simp [intOf]; omega
      · go_wp2_with fail
        refine (next_at _ _ hT.A).mono ?_
        rintro e w3 ⟨rfl, hD, hm⟩
        rw [dice_tells]
        have hX := (ownsRow_mod hT.X hm (fun g hg (e : g = d1) => (hT.xd g hg).1 e)).alloc (.cells #[.int .u32 (dv zs p)] 26)
        have hrn := Reads.new w3 26 #[.int .u32 (dv zs p)] 1 1 rfl
        have hone : ∀ u ∈ [Value.int .u32 (dv zs p)], u.oneCell' = true := by intro u hu; simp at hu; subst hu; rfl
        have hb1 : p + 1 ≤ maxLen := by unfold maxLen; omega
        have hb2 : (p + 1) * 4 ≤ 140737488355328 := by omega
        have hb3 : w.heap.size ≤ (w3.alloc (.cells #[.int .u32 (dv zs p)] 26)).heap.size := by
          have h1 := hT.E.size
          have h2 := hm.size
          simp; omega
        go_wp2_with (at_builtin; refine wpList_append_reads rfl _ _ 22 rfl w.heap.size 26 (.int .u32 0) 1 4 Try.info26 Try.underlying22 rfl (by decide) _ _ _ rfl hX (some ⟨w3.heap.size, 0, none⟩) 1 1 [.int .u32 (dv zs p)] rfl hrn hone hb1 hb2 hb3 ?_)
        intro v' w4 hown hm4 hbk
        obtain ⟨ax', cx', rfl, _, _⟩ := ownsRow_shape hown
        have hT2 := hT.step hm hD hown hm4 (by simpa using hbk)
        clear hown hm4 hbk hX hrn hone hb1 hb2 hb3 hT hD hm
        go_wp2_with fail
        go_roundw
        case rel => exact ⟨k + 1, p + 1, q, ax', ay, cx', cy, by omega, by omega, by go_num, by first | rfl | go_num, by first | rfl | go_num, hT2⟩
        case measure => simp [intOf]; omega
    · have hlt' : ¬ ((k : Int) < (ts.length : Int)) := by omega
      have hX := Reads.own hT.X
      have hY := Reads.own hT.Y
      go_wp2_with fail
      have hif : ∀ r : Nat, (if ((zs.length : Int) - (r : Int)) < 0 then (0 : Int) else (zs.length : Int) - (r : Int)) = ((zs.length - r : Nat) : Int) := by intro r; split <;> omega
      have hif1 := hif p
      have hif2 := hif q
      clear hif
      obtain ⟨wo, rfl⟩ : ∃ wo : World, wo = wr := ⟨_, rfl⟩
      go_loopw [10] (fun i wq => ∃ (j n : Nat), j ≤ p ∧ j ≤ q ∧ i = .int .i64 j ∧ wq = wo.drewN n) (fun i _ => p - (intOf i).toNat)
      case atStart => exact ⟨0, 0, Nat.zero_le _, Nat.zero_le _, rfl, rfl⟩
      case round =>
        obtain ⟨j, n, hjp, hjq, rfl, rfl⟩ := hrel
        by_cases h2p : j < p
        · by_cases h2q : j < q
          · obtain ⟨b1, o1, rfl⟩ := hX.some (by omega)
            obtain ⟨b2, o2, rfl⟩ := hY.some (by omega)
            have c1 := hX.at (told_at zs p j h2p)
            have c2 := hY.at (told_at zs q j h2q)
            have i1 : (j : Int) < (p : Int) := by omega
            have i2 : (j : Int) < (q : Int) := by omega
            clear hX hY hif1 hif2 hT
            go_wp2_with fail
            go_quiet (fail)
            go_wp2_with fail
            go_roundw
            case rel => exact ⟨j + 1, _, by omega, by omega, by go_num, rfl⟩
            case measure => simp [intOf]; omega
          · have i1 : (j : Int) < (p : Int) := by omega
            have i2 : ¬ ((j : Int) < (q : Int)) := by omega
            have hA := hT.A.drewN n
            have hB := fun i => hT.B.drewN i
            have hE := fun i => hT.E.drewN i
            clear hX hY hT
            go_wp2_with fail
            refine (left_at _ _ hA).mono ?_
            rintro e w5 ⟨rfl, m5, rfl⟩
            rw [dice_left]
            go_wp2_with fail
            refine (left_at (wo.drewN (n + m5)) _ (hB (n + m5))).mono ?_
            rintro e w6 ⟨rfl, m6, rfl⟩
            rw [dice_left]
            go_wp2_with fail
            refine (awake1_any _).mono ?_
            rintro e w7 ⟨rfl, hx7⟩
            go_wp2_with fail
            go_ret
            exact ⟨rfl, (hE (n + m5 + m6)).ext_trans hx7⟩
        · have i1 : ¬ ((j : Int) < (p : Int)) := by omega
          have hA := hT.A.drewN n
          have hB := fun i => hT.B.drewN i
          have hE := fun i => hT.E.drewN i
          clear hX hY hT
          go_wp2_with fail
          refine (left_at _ _ hA).mono ?_
          rintro e w5 ⟨rfl, m5, rfl⟩
          rw [dice_left]
          go_wp2_with fail
          refine (left_at (wo.drewN (n + m5)) _ (hB (n + m5))).mono ?_
          rintro e w6 ⟨rfl, m6, rfl⟩
          rw [dice_left]
          go_wp2_with fail
          refine (awake1_any _).mono ?_
          rintro e w7 ⟨rfl, hx7⟩
          go_wp2_with fail
          go_ret
          exact ⟨rfl, (hE (n + m5 + m6)).ext_trans hx7⟩

theorem diceApart_calls (w : World) (ao : Option Addr) (cap : Nat) (zs : List Int) (hr : Reads w 1 ao zs.length (zs.map (Value.int .u32))) (hm : zs.length ≤ maxLen) (_ : ∀ n ∈ zs, (Lit.int .u32 n).wf = true)
    (bo : Option Addr) (cp : Nat) (ts : List Bool) (hr2 : Reads w 1 bo ts.length (ts.map Value.bool)) (hm2 : ts.length ≤ maxLen) :
    Calls Try.prog 5 #[.slice ao zs.length cap, .slice bo ts.length cp] w fun e w' => e = .returned (.bool true) ∧ Ext w w' := by
  unfold maxLen at hm hm2
  by_cases h : zs.length ≤ 60
  · by_cases h2 : ts.length ≤ 120
    · exact diceApart_any w ao bo cap cp zs ts h h2 hr hr2
    · exact diceApart_long w ao bo _ cap _ cp (.inr ⟨h, by omega⟩) (by omega) (by omega)
  · exact diceApart_long w ao bo _ cap _ cp (.inl (by omega)) (by omega) (by omega)

end Go.Proofs.Ythfckncbhkcblaa

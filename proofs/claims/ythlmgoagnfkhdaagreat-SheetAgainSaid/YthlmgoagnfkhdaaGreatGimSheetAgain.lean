/- What is typed at carets and then erased, as often as it has characters, leaves the text and the carets as they were: the walk. Conditions: none. -/
import Derived.Test.YthlmgoagnfkhdaaGreatGimSheetTyped
import Derived.Test.YthlmgoagnfkhdaaGreatGimF46
set_option maxHeartbeats 6400000
set_option maxRecDepth 1000000
set_option linter.unusedVariables false
set_option linter.unusedSimpArgs false
namespace Go.Gim
theorem inE_is (l : List Int) : l.map (Value.int .i64) = inE.cells l := by
 show _ = (l.map inE.f).flatten
 induction l with
 | nil => rfl
 | cons x r ih => simp only [List.map_cons, List.flatten_cons, ← ih]; rfl
theorem norm_in_text {n : Nat} {l : List (Int × Int)} (h : InT n l) (h0 : 0 < l.length) (h1 : l.length ≤ 64) : normE n l = 0 := by
 unfold normE
 rw [if_neg (by omega), if_neg (by omega), if_pos]
 rw [List.all_eq_true]
 intro x hx
 have := h x hx
 rw [mayB_span]
 omega
theorem carets_rise {q : List (Int × Int)} (hr : q.Pairwise rS) (hc : ∀ x ∈ q, x.1 = x.2) : (q.map (·.1)).Pairwise (· < ·) := by
 rw [List.pairwise_map]
 refine hr.imp_of_mem (fun {a b} ha hb hab => ?_)
 have h1 := hc a ha
 have h2 := hc b hb
 unfold rS spanI at hab
 simp only at hab
 omega
end Go.Gim
namespace Go.Proofs.YthlmgoagnfkhdaaGreat
open Go.RowKit Go.Gim
theorem mul_facts {M C S : Nat} (h : M * C ≤ 120) (hs : S ≤ 80) : ∃ P T : Nat, P = M * C ∧ T = S + P ∧ wrap64 ((M : Int) * (C : Int)) = (P : Int) ∧ wrap64 ((S : Int) + (P : Int)) = (T : Int) := by
 obtain ⟨P, hP⟩ : ∃ P, P = M * C := ⟨_, rfl⟩
 rw [← hP] at h
 have e : (M : Int) * (C : Int) = (P : Int) := by rw [hP, Int.natCast_mul]
 refine ⟨P, S + P, hP, rfl, ?_, ?_⟩
 ·clear hP
  rw [e]
  exact IntWalk.wrap64_in _ ⟨by omega, by omega⟩
 ·clear hP e
  rw [show (S : Int) + (P : Int) = ((S + P : Nat) : Int) by omega]
  exact IntWalk.wrap64_in _ ⟨by omega, by omega⟩
def placesN (n : Nat) (l : List Int) : List Int := l.map fun x => ((lowN x (n + 1) : Nat) : Int)
theorem places_snoc (n : Nat) {l : List Int} {k : Nat} {x : Int} (h : l[k]? = some x) : dup (placesN n (l.take (k + 1))) = dup (placesN n (l.take k)) ++ [(((lowN x (n + 1) : Nat) : Int), ((lowN x (n + 1) : Nat) : Int))] := by
 obtain ⟨hk, rfl⟩ := List.getElem?_eq_some_iff.1 h
 unfold placesN dup
 rw [List.take_succ_eq_append_getElem hk, List.map_append, List.map_append]
 rfl
theorem places_in (n : Nat) (l : List Int) : InT n (dup (placesN n l)) := by
 intro x hx
 obtain ⟨k, hk, rfl⟩ := List.mem_map.1 hx
 obtain ⟨y, _, rfl⟩ := List.mem_map.1 hk
 have := lowN_lt y (n + 1) (by omega)
 simp only
 omega
theorem places_carets (n : Nat) (l : List Int) : ∀ x ∈ dup (placesN n l), x.1 = x.2 := by
 intro x hx
 obtain ⟨k, _, rfl⟩ := List.mem_map.1 hx
 rfl
theorem places_len (n : Nat) (l : List Int) : (dup (placesN n l)).length = l.length := by
 unfold dup placesN
 simp
structure AgAt (w0 w : World) (S' : Sh) (Bd : Int) (s : By) (ps : List Int) (F k g : Nat) (c : By) : Prop where
 al : Alone w0 w S' Bd 6
 tx : S'.s = txA s ps c
 q : S'.q = qA ps c
 cnt : firsts c + k = F
 head : Head c
 len : c.length ≤ 20
 far : ¬ ShS S' g
 glt : g < w.heap.size
theorem sheetAgain_any (w : World) (s : ByteArray) (ao : Option Addr) (cap : Nat) (L : List Int) (c : ByteArray) (hs : s.size ≤ 80) (hr : Reads w 1 ao L.length (inE.cells L)) (hn0 : 0 < L.length) (hn : L.length ≤ 6) (hc : c.size ≤ 20) :
  Calls Tryz.prog 4 #[.string s, .slice ao L.length cap, .string c] w fun e w' => e = .returned (.bool true) ∧ Ext w w' := by
 have hl1 : maxLen = 9223372036854775807 := rfl
 obtain ⟨N, hN⟩ : ∃ N, N = L.length := ⟨_, rfl⟩
 have HN := Lib.hid hN
 have Hr := Lib.hid hr
 rw [← hN] at hn0 hn ⊢
 have i1 : ¬ (80 : Int) < (s.size : Int) := by omega
 have i2 : decide ((80 : Int) < (s.size : Int)) = false := decide_eq_false i1
 have i3 : ¬ (N : Int) = 0 := by omega
 have i4 : decide ((N : Int) = 0) = false := decide_eq_false i3
 have i5 : ¬ (6 : Int) < (N : Int) := by omega
 have i6 : decide ((6 : Int) < (N : Int)) = false := decide_eq_false i5
 have i7 : ¬ (20 : Int) < (c.size : Int) := by omega
 have i8 : decide ((20 : Int) < (c.size : Int)) = false := decide_eq_false i7
 clear hr hN
 go_enter Tryz.func4, Tryz.ntmps4
 go_wp2_with fail
 go_loop [7, 8] (fun m i => ∃ k : Nat, k ≤ c.size ∧ i = .int .i64 k ∧ m = .int .i64 (firsts (c.data.toList.take k) : Nat) ∧ Hid (0 < k → inB (c.data.toList.getD 0 0) = false)) (fun _ i => c.size - (intOf i).toNat)
 case atStart => exact ⟨0, by omega, rfl, rfl, Lib.hid (fun h => absurd h (Nat.lt_irrefl _))⟩
 case round =>
  clear i1 i2 i3 i4 i5 i6 i7 i8
  obtain ⟨k, hk, rfl, rfl, HH⟩ := hrel
  by_cases hlt : k < c.size
  ·have hlt' : (k : Int) < (c.size : Int) := by omega
   have hk0 : (0 : Int) ≤ (k : Int) := by omega
   have hft := firsts_take (c := c.data.toList) (j := k) (b := c[k]) (by rw [List.getElem?_eq_getElem (by rw [toList_length]; exact hlt), toList_get c k hlt])
   have hfl : firsts (c.data.toList.take k) ≤ 20 := by
    unfold firsts
    refine Nat.le_trans (List.length_filter_le _ _) ?_
    rw [List.length_take, toList_length]
    omega
   have hg0 : k = 0 → c.data.toList.getD 0 0 = c[k] := fun e => by
    subst e
    rw [List.getD_eq_getElem?_getD, List.getElem?_eq_getElem (by rw [toList_length]; exact hlt), toList_get c 0 hlt]
    rfl
   cases hin : inB c[k] with
   | true =>
    have hft : firsts (c.data.toList.take (k + 1)) = firsts (c.data.toList.take k) := by rw [hft, hin]; rfl
    have Hft := Lib.hid hft
    have Hg0 := Lib.hid hg0
    have Hin := Lib.hid hin
    have b1 : ¬ (c[k].toNat : Int) < 128 := by simp [inB] at hin; omega
    have b2 : ¬ (191 : Int) < (c[k].toNat : Int) := by simp [inB] at hin; omega
    have b3 : decide ((c[k].toNat : Int) < 128) = false := decide_eq_false b1
    have b4 : decide ((191 : Int) < (c[k].toNat : Int)) = false := decide_eq_false b2
    clear hft hg0 hfl hin
    by_cases hz : k = 0
    ·have z1 : (k : Int) = 0 := by omega
     have z2 : ((k : Int) == 0) = true := by rw [z1]; rfl
     clear Hft Hg0 Hin HH hz z1
     go_wp2_with fail
     refine (awakeS_any _).mono ?_
     rintro e w1 ⟨rfl, hx⟩
     go_wp2_with fail
     go_ret
     exact ⟨rfl, hx⟩
    ·have z1 : ¬ (k : Int) = 0 := by omega
     have z2 : ((k : Int) == 0) = false := by simpa using z1
     have HH2 := Lib.hid (HH.out (by omega))
     go_wp2_with fail
     go_round
     case rel => exact ⟨k + 1, by omega, by go_num, by rw [Hft.out], Lib.hid (fun _ => HH2.out)⟩
     case measure => simp [intOf]; omega
   | false =>
    have hft : firsts (c.data.toList.take (k + 1)) = firsts (c.data.toList.take k) + 1 := by rw [hft, hin]; rfl
    have HH2 := Lib.hid (show inB (c.data.toList.getD 0 0) = false by
     by_cases hz : k = 0
     ·rw [hg0 hz]; exact hin
     ·exact HH.out (by omega))
    have hlo : (c[k].toNat : Int) < 128 ∨ (191 : Int) < (c[k].toNat : Int) := by simp [inB] at hin; omega
    have a1 : wrap64 ((firsts (c.data.toList.take k) : Int) + 1) = ((firsts (c.data.toList.take (k + 1)) : Nat) : Int) := by rw [hft, IntWalk.wrap64_in _ ⟨by omega, by omega⟩]; simp
    generalize firsts (c.data.toList.take k) = G at *
    generalize hG2 : firsts (c.data.toList.take (k + 1)) = G' at *
    have HG2 := Lib.hid hG2
    clear hft hg0 hin hG2 hfl
    by_cases hb : (c[k].toNat : Int) < 128
    ·have b3 : decide ((c[k].toNat : Int) < 128) = true := decide_eq_true hb
     clear hlo
     by_cases hz : k = 0
     ·have z1 : (k : Int) = 0 := by omega
      have z2 : ((k : Int) == 0) = true := by rw [z1]; rfl
      clear hz z1
      go_wp2_with fail
      go_round
      case rel => exact ⟨k + 1, by omega, by go_num, congrArg _ (a1.trans (congrArg Int.ofNat HG2.out.symm)), Lib.hid (fun _ => HH2.out)⟩
      case measure => simp [intOf]; omega
     ·have z1 : ¬ (k : Int) = 0 := by omega
      have z2 : ((k : Int) == 0) = false := by simpa using z1
      go_wp2_with fail
      go_round
      case rel => exact ⟨k + 1, by omega, by go_num, congrArg _ (a1.trans (congrArg Int.ofNat HG2.out.symm)), Lib.hid (fun _ => HH2.out)⟩
      case measure => simp [intOf]; omega
    ·have b2 : (191 : Int) < (c[k].toNat : Int) := by omega
     have b3 : decide ((c[k].toNat : Int) < 128) = false := decide_eq_false hb
     have b4 : decide ((191 : Int) < (c[k].toNat : Int)) = true := decide_eq_true b2
     clear hlo
     by_cases hz : k = 0
     ·have z1 : (k : Int) = 0 := by omega
      have z2 : ((k : Int) == 0) = true := by rw [z1]; rfl
      clear hz z1
      go_wp2_with fail
      go_round
      case rel => exact ⟨k + 1, by omega, by go_num, congrArg _ (a1.trans (congrArg Int.ofNat HG2.out.symm)), Lib.hid (fun _ => HH2.out)⟩
      case measure => simp [intOf]; omega
     ·have z1 : ¬ (k : Int) = 0 := by omega
      have z2 : ((k : Int) == 0) = false := by simpa using z1
      go_wp2_with fail
      go_round
      case rel => exact ⟨k + 1, by omega, by go_num, congrArg _ (a1.trans (congrArg Int.ofNat HG2.out.symm)), Lib.hid (fun _ => HH2.out)⟩
      case measure => simp [intOf]; omega
  ·have hlt' : ¬ (k : Int) < (c.size : Int) := by omega
   obtain rfl : k = c.size := by omega
   rw [List.take_of_length_le (by rw [toList_length]; exact Nat.le_refl _)]
   have Hhd := Lib.hid (show Head c.data.toList by
    by_cases hz : 0 < c.size
    ·exact .inr (HH.out hz)
    ·exact .inl (List.length_eq_zero_iff.1 (by rw [toList_length]; omega)))
   have hF : firsts c.data.toList ≤ 20 := by
    unfold firsts
    refine Nat.le_trans (List.length_filter_le _ _) ?_
    rw [toList_length]
    omega
   obtain ⟨F, hFe⟩ : ∃ F, F = firsts c.data.toList := ⟨_, rfl⟩
   have HF := Lib.hid hFe
   rw [← hFe] at hF ⊢
   clear HH hlt hlt' hk hFe
   go_wp2_with fail
   refine (dice_lit _ [5, 9] #[.int .u32 5, .int .u32 9] rfl (by simp) (by simp)).mono ?_
   rintro e u1 ⟨D, rfl, hD⟩
   go_wp2_with fail
   refine (snew_any D s u1 hD.dice (by omega)).mono ?_
   rintro e u2 ⟨S, rfl, h1, h2, h3, h4, h5, -, h6, h7⟩
   have HA := Lib.hid (Alone.start (m := 6) hD.ext hD.d h1 h3 h4 h5 h6 h7 (by omega))
   have H2 := Lib.hid h2
   clear hD h1 h2 h3 h4 h5 h6 h7
   go_wp2_with fail
   go_loopw [12, 13] (fun v i wr => ∃ k : Nat, k ≤ N ∧ i = .int .i64 k ∧ Hid (wr.ownsRow u2.heap.size 47 2 v k (prCells (dup (placesN s.size (L.take k))))) ∧ Ext u2 wr) (fun _ i _ => N - (intOf i).toNat)
   case atStart => exact ⟨0, by omega, rfl, Lib.hid (World.ownsRow_nil _ _ _ _), Mod.refl _ _⟩
   case round =>
    obtain ⟨k, hk, rfl, HO, hx⟩ := hrel
    by_cases hlt : k < N
    ·have hlt' : (k : Int) < (N : Int) := by omega
     have hk0 : (0 : Int) ≤ (k : Int) := by omega
     have HL := Lib.hid hlt
     have hlk : k < L.length := by rw [← HN.out]; exact hlt
     obtain ⟨b, off, rfl⟩ := Hr.out.some (by rw [← HN.out]; omega)
     have q0 := rdIn_at (Hr.out.mod (HA.out.ext.ext_trans hx) (fun _ _ f => f)) (List.getElem?_eq_getElem hlk)
     have Hst := Lib.hid (places_snoc s.size (List.getElem?_eq_getElem hlk))
     generalize L[k] = x at *
     have L1 := Lib.hid (fun v => lowC x (s.size + 1) ((s.size : Int) + 1) (by omega) (by omega) (by omega) v)
     have s1 : IntKind.i64.wrap ((s.size : Int) + 1) = (s.size : Int) + 1 := IntWalk.i64_in _ (by omega)
     have s2 : wrap64 ((s.size : Int) + 1) = (s.size : Int) + 1 := IntWalk.wrap64_in _ ⟨by omega, by omega⟩
     generalize lowN x (s.size + 1) = A at *
     obtain ⟨va, vc, hva, _, _⟩ := ownsRow_shape HO.out
     subst hva
     have hbl := World.block_lt_of_cell? wr _ q0
     clear hlk
     go_wp2_with fail
     refine (L1.out _).mono ?_
     rintro e wz ⟨rfl, rfl⟩
     clear q0 hbl s1 s2
     go_wp2_with (at_builtin; refine wpList_append_reads rfl _ _ 32 rfl u2.heap.size 47 _ 2 16 Tryz.info47 Tryz.underlying32 rfl (by decide) _ k _ rfl (HO.out.alloc _) _ 1 1 [.int .i64 (A : Nat), .int .i64 (A : Nat)] rfl ?hrd (prCells_one [((A : Int), (A : Int))]) (by omega) (by omega) ?hbs ?_)
     case hrd =>
      have := Reads.new wz 47 #[.int .i64 (A : Nat), .int .i64 (A : Nat)] 2 1 rfl
      simpa using this
     case hbs => have := hx.size; simp at this ⊢; omega
     intro v' w7 hown hm7 hbk
     have hx7 := (hx.alloc (.cells #[.int .i64 (A : Nat), .int .i64 (A : Nat)] 47)).trans hm7 (fun i hi e => by have h1 := (HO.out.lt i e).1; omega)
     have Hown := Lib.hid hown
     clear hm7 hbk hown
     go_wp2_with fail
     go_roundw
     case rel => exact ⟨k + 1, HL.out, by go_num, Lib.hid (by rw [Hst.out, prCells_append]; exact Hown.out), hx7⟩
     case measure => have := HL.out; simp [intOf]; omega
    ·have hlt' : ¬ (k : Int) < (N : Int) := by omega
     obtain rfl : k = N := by omega
     have hO := HO.out
     rw [List.take_of_length_le (by rw [← HN.out]; exact Nat.le_refl _)] at hO
     have Hq0 := Lib.hid (places_in s.size L)
     have Hqc := Lib.hid (places_carets s.size L)
     have Hql := Lib.hid (places_len s.size L)
     generalize dup (placesN s.size L) = l at *
     have hll : l.length = k := by rw [Hql.out, ← HN.out]
     have Hz := Lib.hid (norm_in_text (n := s.size) Hq0.out (by omega) (by omega))
     obtain ⟨a3, c3, rfl, hr3⟩ := owns_reads hO
     have HA3 := Lib.hid (HA.out.on hx)
     have HS := Lib.hid (sselect_any S a3 c3 l wr HA3.out.sh (by rw [hll]; exact hr3) (by rw [hll]; omega))
     rw [H2.out, Hz.out, if_pos rfl, hll] at HS
     have Hin := Lib.hid (orderN_inT Hz.out)
     have Hap := Lib.hid (orderN_rS l)
     have Hoc := Lib.hid (orderN_carets Hqc.out)
     have Hp0 := Lib.hid (orderN_pos (normE_ok Hz.out).1)
     have Hp1 := Lib.hid (show (orderN l).length ≤ 6 by have := orderN_len l; omega)
     clear hO hr3 hx HA HO hlt hlt' hk Hr Hq0 Hqc Hql HN hll
     go_wp2_with fail
     refine HS.out.mono ?_
     rintro e w4 ⟨S1, rfl, hd, e1, e2, e3, e4⟩
     generalize orderN l = Q at *
     have HA4 := Lib.hid (HA3.out.pick hd (by rw [e1, H2.out]) e2 e3 (by rw [e4]; exact Hp0.out) (by rw [e4]; exact Hp1.out) (by rw [e4, H2.out]; exact Hin.out))
     have E1 := Lib.hid e1
     have E4 := Lib.hid e4
     have hsb := hd.sb
     have HSe := Lib.hid (ssels_any S1 w4 HA4.out.sh HA4.out.q0 (by have := HA4.out.q1; omega))
     unfold NewRow at HSe
     rw [e4, hsb] at HSe
     have Hsb := Lib.hid hsb
     clear HS hd e1 e2 e3 e4 HA3 H2
     go_wp2_with fail
     refine HSe.out.mono ?_
     rintro e w5 ⟨g5, c5, rfl, ho5, hx5⟩
     have HA5 := Lib.hid (HA4.out.on hx5)
     have Hwas := Lib.hid (Reads.own ho5)
     have Hfw := Lib.hid (HA4.out.free ho5 (Nat.le_refl _))
     have Hgl := Lib.hid (show g5 < w5.heap.size from (ho5.lt g5 rfl).2)
     have HTy := Lib.hid (styped_any S1 c w5 HA5.out.sh HA5.out.q0 (by have := HA5.out.q1; omega))
     unfold Enc.Out at HTy
     rw [E4.out, hsb] at HTy
     have Hdq := Lib.hid (dup_of Hoc.out)
     have Hri := Lib.hid (carets_rise Hap.out Hoc.out)
     obtain ⟨ps, hps⟩ : ∃ ps, ps = Q.map (·.1) := ⟨_, rfl⟩
     have Hpn := Lib.hid (show ∀ x ∈ ps, 0 ≤ x ∧ x ≤ s.size by
      intro x hx
      rw [hps] at hx
      obtain ⟨y, hy, rfl⟩ := List.mem_map.1 hx
      have := Hin.out y hy
      omega)
     rw [← hps] at Hdq Hri
     have Hpl := Lib.hid (show ps.length = Q.length by rw [hps, List.length_map])
     have Hmul := Lib.hid (show ps.length * c.size ≤ 120 from Nat.le_trans (Nat.mul_le_mul (show ps.length ≤ 6 by rw [Hpl.out]; exact Hp1.out) hc) (by omega))
     have Hfi := Lib.hid (again_first (s := s) (c := c) (ps := ps) Hri.out Hpn.out (by have := Hmul.out; omega))
     rw [Hdq.out] at Hfi
     have HPl := Lib.hid (show Pl s.data.toList.length 0 ps from pl_of (Nat.zero_le _) (fun x hx => by have := Hpn.out x hx; have h2 : s.data.toList.length = s.size := rfl; omega) Hri.out)
     have Het := Lib.hid (typed_t (t := c) (q := Q))
     have Hel := Lib.hid (typedL_len c Q)
     clear HSe ho5 hx5 hsb HA4 hps
     generalize typedL c Q = ES at *
     go_wp2_with fail
     refine HTy.out.mono ?_
     rintro e w6 ⟨v, rfl, ho, hx6⟩
     have Ho := Lib.hid ho
     obtain ⟨az, cz, rfl, hrz⟩ := Enc.owns_reads (E := edE) ho
     have HA6 := Lib.hid (HA5.out.on hx6)
     have HDo := Lib.hid (HA6.out.do (by omega) (by omega) (by rw [E1.out]; omega) az cz ES hrz (by have := Hel.out; have := Hp1.out; omega) (fun e he => by rw [Het.out e he]; omega) (fun _ => HA5.out.free Ho.out (Nat.le_refl _)))
     rw [E1.out, Hfi.out.1, Hsb.out] at HDo
     have Hwas6 := Lib.hid (Hwas.out.mod hx6 (fun _ _ f => f))
     have Hgl6 := Lib.hid (Nat.lt_of_lt_of_le Hgl.out hx6.size)
     clear HTy ho hrz hx6 Hwas HA5 Hgl
     go_wp2_with fail
     refine HDo.out.mono ?_
     rintro e w7 ⟨S2, a7, c7, rfl, -, -, hd2, e1, -, -, e4, hA7⟩
     have HG := Lib.hid (show AgAt w w7 S2 (65536 + 2000000) s.data.toList ps F 0 g5 c.data.toList from ⟨hA7, by rw [e1, Hfi.out.2.1], by rw [e4, E4.out, Hfi.out.2.2.1], by rw [← HF.out]; rfl, Hhd.out, by rw [toList_length]; exact hc, fun hf => Hfw.out _ rfl (hd2.grew g5 Hgl6.out hf), Nat.lt_of_lt_of_le Hgl6.out hd2.mod.size⟩)
     have Hwas7 := Lib.hid (Hwas6.out.mod hd2.mod (fun a ha e => Hfw.out a ha e))
     have hsb2 := hd2.sb.trans Hsb.out
     have HLn := Lib.hid (len_any S2.R w7 hA7.sh.rope)
     rw [size_of hA7.sh.text, e1, Hfi.out.2.1, Hfi.out.2.2.2] at HLn
     have d0 := SheetAt.cell0 hA7.sh
     rw [hsb2] at d0
     have hlb := hA7.sh.blk.lt
     rw [hsb2] at hlb
     have Hsb2 := Lib.hid hsb2
     obtain ⟨M, hM⟩ : ∃ M, M = Q.length := ⟨_, rfl⟩
     have HMq := Lib.hid hM
     have hm6 : M ≤ 6 := by rw [hM]; exact Hp1.out
     rw [Hpl.out, ← hM] at HLn Hmul
     rw [← hM]
     obtain ⟨P, T, hP, hT, m2, m3⟩ := mul_facts (S := s.size) Hmul.out hs
     have HLn' := Lib.hid (show Calls Tryz.prog 22 #[.pointer (some ⟨S2.R.rb, 0, none⟩)] w7 fun e w' => e = .returned (.int .i64 (T : Int)) ∧ w' = w7 by
      have := HLn.out
      rwa [← hP, ← hT] at this)
     have m4 : ((T : Int) != (T : Int)) = false := by simp
     clear hP hT
     clear HDo hd2 e1 e4 hA7 hsb2 HLn Hfi Hwas6 HA6 Ho Het Hel Hfw Hgl6 hM Hmul
     go_wp2_with fail
     refine HLn'.out.mono ?_
     rintro e wz ⟨rfl, rfl⟩
     clear HLn' d0 hlb
     go_wp2_with fail
     clear m2 m3 m4
     have HX0 := Lib.hid HG.out.al.ext
     go_loopw [18] (fun i wr => ∃ (k : Nat) (S' : Sh) (c' : By), k ≤ F ∧ i = .int .i64 k ∧ S'.sb = S.sb ∧ Hid (AgAt w wr S' (65536 + 2000000 * ((k : Int) + 1)) s.data.toList ps F k g5 c') ∧ Hid (Reads wr 2 (some ⟨g5, 0, none⟩) M (prCells Q))) (fun i _ => F - (intOf i).toNat)
     case atStart => exact ⟨0, S2, _, by omega, rfl, Hsb2.out, HG, by rw [HMq.out]; exact Hwas7⟩
     case round =>
      clear HG Hwas7 Hsb2
      obtain ⟨k, S3, c', hk, rfl, hb3, HG, HW⟩ := hrel
      by_cases hlt : k < F
      ·have hlt' : (k : Int) < (F : Int) := by omega
       have HL := Lib.hid hlt
       have hcp : 0 < c'.length := by
        have := HG.out.cnt
        refine Nat.pos_of_ne_zero (fun e => ?_)
        rw [List.length_eq_zero_iff.1 e, firsts_nil] at this
        omega
       have hc0 : inB (c'.getD 0 0) = false := by
        rcases HG.out.head with h | h
        ·rw [h] at hcp; exact absurd hcp (Nat.lt_irrefl _)
        ·exact h
       have hsz : S3.s.size ≤ 65536 := by
        have h1 := HG.out.al.sh.rope.size
        have h2 := size_of HG.out.al.sh.text
        omega
       have hinq := HG.out.al.inq
       rw [HG.out.tx, HG.out.q] at hinq
       have hst := again_step (s := s.data.toList) HPl.out Hri.out hcp hc0 hinq (by rw [← HG.out.tx]; exact hsz)
       rw [← HG.out.tx, ← HG.out.q] at hst
       have Hst := Lib.hid hst
       have HEr := Lib.hid (serased_any S3 false wr HG.out.al.sh HG.out.al.q0 (by have := HG.out.al.q1; omega) HG.out.al.inq)
       unfold Enc.Out at HEr
       rw [hb3] at HEr
       have Hel := Lib.hid (erasedL_len S3.s.data.toList false S3.q)
       have Hein := Lib.hid (erased_in (forth := false) (show InT (S3.s.data.toList.length : Nat) S3.q from HG.out.al.inq))
       have Hcut := Lib.hid (cutN_firsts hcp hc0)
       clear hst hinq hcp hc0
       generalize erasedL S3.s.data.toList false S3.q = E3 at *
       have Hb3 := Lib.hid hb3
       clear hb3
       go_wp2_with fail
       refine HEr.out.mono ?_
       rintro e w8 ⟨v, rfl, ho, hx8⟩
       have Ho := Lib.hid ho
       obtain ⟨az3, cz3, rfl, hrz⟩ := Enc.owns_reads (E := edE) ho
       have HA8 := Lib.hid (HG.out.al.on hx8)
       have HDo := Lib.hid (HA8.out.do (by omega) (by omega) hsz az3 cz3 E3 hrz (by have := Hel.out; have := HG.out.al.q1; omega) (fun e he => by rw [(Hein.out e he).2.2.2]; show 0 ≤ 100000; omega) (fun _ => HG.out.al.free Ho.out (Nat.le_refl _)))
       rw [Hst.out.1, Hb3.out] at HDo
       clear HEr ho hrz
       go_wp2_with fail
       refine HDo.out.mono ?_
       rintro e w9 ⟨S4, a9, c9, rfl, -, -, hd4, e1, -, -, e4, hA9⟩
       have Hb4 := Lib.hid (hd4.sb.trans Hb3.out)
       have hg8 : g5 < w8.heap.size := Nat.lt_of_lt_of_le HG.out.glt hx8.size
       have HG4 := Lib.hid (show AgAt w w9 S4 (65536 + 2000000 * (((k + 1 : Nat) : Int) + 1)) s.data.toList ps F (k + 1) g5 (cutN c') from
        ⟨by have := hA9; rwa [show (65536 + 2000000 * ((k : Int) + 1) + 2000000 : Int) = 65536 + 2000000 * (((k + 1 : Nat) : Int) + 1) by omega] at this,
         by rw [e1, Hst.out.2.1], by rw [e4, Hst.out.2.2], by have := HG.out.cnt; have := Hcut.out; omega, cutN_head HG.out.head, by have := cutN_len c'; have := HG.out.len; omega,
         fun hf => HG.out.far (hd4.grew g5 hg8 hf), Nat.lt_of_lt_of_le hg8 hd4.mod.size⟩)
       have HW4 := Lib.hid ((HW.out.mod hx8 (fun _ _ f => f)).mod hd4.mod (fun a ha e => by cases ha; exact HG.out.far e))
       clear HDo hd4 e1 e4 hA9 hg8 HA8 hx8 HG HW Hst Hcut
       go_wp2_with fail
       go_roundw
       case rel => exact ⟨k + 1, S4, cutN c', HL.out, by go_num, Hb4.out, HG4, HW4⟩
       case measure => have := HL.out; simp [intOf]; omega
      ·have hlt' : ¬ (k : Int) < (F : Int) := by omega
       obtain rfl : k = F := by omega
       have hc' : c' = [] := firsts_none HG.out.head (by have := HG.out.cnt; omega)
       subst hc'
       obtain ⟨t1, t2⟩ := again_last (s := s.data.toList) HPl.out
       have htx : S3.s = s := by rw [HG.out.tx, t1, bs_of]
       have hq : S3.q = Q := by rw [HG.out.q, t2, Hdq.out]
       have HTx := Lib.hid (text_rope S3.R wr HG.out.al.sh.rope)
       rw [bs_eq HG.out.al.sh.text, htx] at HTx
       have HSe := Lib.hid (fun w' (h' : Ext wr w') => ssels_any S3 w' (HG.out.al.sh.ext h') HG.out.al.q0 (by have := HG.out.al.q1; omega))
       unfold NewRow at HSe
       rw [hq, hb3] at HSe
       have HSa := Lib.hid (fun a b cc d w' (ha : Reads w' 2 a Q.length (prCells Q)) (hb : Reads w' 2 b Q.length (prCells Q)) => selsSame a b cc d Q w' ha hb (by rw [← HMq.out]; omega))
       rw [← HMq.out] at HSe HSa
       have d0 := SheetAt.cell0 HG.out.al.sh
       rw [hb3] at d0
       have hlb := HG.out.al.sh.blk.lt
       rw [hb3] at hlb
       have hss : (s.toList == s.toList) = true := beq_self_eq_true _
       have HX := Lib.hid HG.out.al.ext
       clear HG htx hq t1 t2
       go_wp2_with fail
       refine HTx.out.mono ?_
       rintro e w8 ⟨rfl, hx8⟩
       clear d0 hlb
       go_wp2_with fail
       refine (HSe.out w8 hx8).mono ?_
       rintro e w9 ⟨g9, c9, rfl, ho9, hx9⟩
       have Ho9 := Lib.hid (Reads.own ho9)
       have HW9 := Lib.hid (HW.out.mod (hx8.ext_trans hx9) (fun _ _ f => f))
       clear ho9 HW
       go_wp2_with fail
       refine (HSa.out _ _ _ _ _ Ho9.out HW9.out).mono ?_
       rintro e wa ⟨rfl, hxa⟩
       go_wp2_with fail
       refine (awakeS_any _).mono ?_
       rintro e wb ⟨rfl, hxb⟩
       go_wp2_with fail
       go_ret
       exact ⟨rfl, HX.out.ext_trans (hx8.ext_trans (hx9.ext_trans (hxa.ext_trans hxb)))⟩
theorem sheetAgain_calls (w : World) (s : ByteArray) (_ : s.size ≤ 9223372036854775807) (ao : Option Addr) (cap : Nat) (L : List Int) (hr : Reads w 1 ao L.length (L.map (Value.int .i64))) (_ : L.length ≤ maxLen) (_ : ∀ x ∈ L, (Lit.int .i64 x).wf = true) (c : ByteArray) (_ : c.size ≤ 9223372036854775807) :
  Calls Tryz.prog 4 #[.string s, .slice ao L.length cap, .string c] w fun e w' => e = .returned (.bool true) ∧ Ext w w' := by
 rw [inE_is] at hr
 by_cases h1 : s.size ≤ 80
 ·have i1 : ¬ (80 : Int) < (s.size : Int) := by omega
  have i2 : decide ((80 : Int) < (s.size : Int)) = false := decide_eq_false i1
  by_cases h2 : L.length = 0
  ·have i3 : (L.length : Int) = 0 := by omega
   have i4 : ((L.length : Int) == 0) = true := by rw [i3]; rfl
   clear hr
   go_enter Tryz.func4, Tryz.ntmps4
   go_wp2_with fail
   refine (awakeS_any _).mono ?_
   rintro e w1 ⟨rfl, hx⟩
   go_wp2_with fail
   go_ret
   exact ⟨rfl, hx⟩
  ·have i3 : ¬ (L.length : Int) = 0 := by omega
   have i4 : decide ((L.length : Int) = 0) = false := decide_eq_false i3
   have i5 : ((L.length : Int) == 0) = false := i4
   by_cases h3 : L.length ≤ 6
   ·have i6 : ¬ (6 : Int) < (L.length : Int) := by omega
    have i7 : decide ((6 : Int) < (L.length : Int)) = false := decide_eq_false i6
    by_cases h4 : c.size ≤ 20
    ·exact sheetAgain_any w s ao cap L c h1 hr (by omega) h3 h4
    ·have i8 : (20 : Int) < (c.size : Int) := by omega
     have i9 : decide ((20 : Int) < (c.size : Int)) = true := decide_eq_true i8
     clear hr
     go_enter Tryz.func4, Tryz.ntmps4
     go_wp2_with fail
     refine (awakeS_any _).mono ?_
     rintro e w1 ⟨rfl, hx⟩
     go_wp2_with fail
     go_ret
     exact ⟨rfl, hx⟩
   ·have i6 : (6 : Int) < (L.length : Int) := by omega
    have i7 : decide ((6 : Int) < (L.length : Int)) = true := decide_eq_true i6
    clear hr
    go_enter Tryz.func4, Tryz.ntmps4
    go_wp2_with fail
    refine (awakeS_any _).mono ?_
    rintro e w1 ⟨rfl, hx⟩
    go_wp2_with fail
    go_ret
    exact ⟨rfl, hx⟩
 ·have i1 : (80 : Int) < (s.size : Int) := by omega
  have i2 : decide ((80 : Int) < (s.size : Int)) = true := decide_eq_true i1
  clear hr
  go_enter Tryz.func4, Tryz.ntmps4
  go_wp2_with fail
  refine (awakeS_any _).mono ?_
  rintro e w1 ⟨rfl, hx⟩
  go_wp2_with fail
  go_ret
  exact ⟨rfl, hx⟩
end Go.Proofs.YthlmgoagnfkhdaaGreat

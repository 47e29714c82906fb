/- The document's Digits. Conditions: numbers below 100000. -/
import Derived.Test.YtmecdhbiinpepaaDoorGimPackV
import Derived.Test.YtmecdhbiinpepaaDoorGimPackA
namespace Go.Proofs.YtmecdhbiinpepaaDoor
open Go.RowKit Go.Gim

theorem dig_back (n : Nat) (v : Int) (hv : v = ((48 + n % 10 : Nat) : Int)) (wr : World) : (convert 83 9 (.slice (some ⟨wr.heap.size, 0, none⟩) 1 1)).run Tryd.prog (wr.alloc (.cells #[.int .u8 v] 5)) = .ok (.string (dig1 n)) (wr.alloc (.cells #[.int .u8 v] 5)) := by
  subst hv
  have hb : (UInt8.ofNat (48 + n % 10)).toNat = 48 + n % 10 := by simp [UInt8.toNat_ofNat']; omega
  refine (Go.run_convert_bytes_back (P := Tryd.prog) (wr.alloc (.cells #[.int .u8 ((48 + n % 10 : Nat) : Int)] 5)) 83 9 5 ⟨wr.heap.size, 0, none⟩ 1 [UInt8.ofNat (48 + n % 10)] Tryd.underlying83 Tryd.underlying5 Tryd.underlying9 (fun j hj => ?_))
  have hj0 : j = 0 := by simp at hj; exact hj
  subst hj0
  have hc := (Blk.new wr 5 #[.int .u8 ((48 + n % 10 : Nat) : Int)]).cell 0
  simp only [List.getElem_cons_zero, hb]
  exact hc

set_option maxHeartbeats 1600000 in
set_option maxRecDepth 1000000 in
theorem digits_any (n : Nat) (w : World) (hn : n < 100000) : Calls Tryd.prog 28 #[.int .i64 n] w fun e w' => e = .returned (.string (digS n)) ∧ Ext w w' := by
  have Hb := Lib.hid dig_back
  obtain ⟨D, hD⟩ : ∃ D, digS n = D := ⟨_, rfl⟩
  rw [hD]
  have HD := Lib.hid hD
  have hb0 := dig_back n (48 + (n : Int) % 10) (by omega) w
  clear hD
  go_enter Tryd.func28, Tryd.ntmps28
  go_wp2_with fail
  clear hb0
  go_loopw [0, 3] (fun i s wr => ∃ (f m : Nat) (b : ByteArray), m ≤ n ∧ m < 10 ^ (f + 1) ∧ b.size + f ≤ 6 ∧ i = .int .i64 m ∧ s = .string b ∧ Hid (digR f m b = D) ∧ Ext w wr) (fun i _ _ => (intOf i).toNat)
  case atStart => exact ⟨5, n, dig1 n, Nat.le_refl _, by omega, Nat.le_refl _, rfl, rfl, HD, (Mod.refl _ w).alloc _⟩
  case round =>
    obtain ⟨f, m, b, hm, hm2, hbs, rfl, rfl, HK, hx⟩ := hrel
    by_cases h10 : 10 ≤ m
    · obtain ⟨g, rfl, hg, he⟩ := digR_go (s := b) h10 hm2
      have Hg := Lib.hid hg
      have HK2 := Lib.hid (he.symm.trans HK.out)
      have h1 : (10 : Int) ≤ (m : Int) := by omega
      have hb1 := dig_back (m / 10) (48 + ((m : Int) / 10) % 10) (by omega) wr
      have hsum : (dig1 (m / 10)).size + b.size ≤ 9223372036854775807 := by show 1 + b.size ≤ _; omega
      have hsz : (dig1 (m / 10) ++ b).size = 1 + b.size := by rw [ByteArray.size_append]; rfl
      clear he hm2 hg HK
      go_wp2_with fail
      go_roundw
      case rel => exact ⟨g, m / 10, _, by omega, Hg.out, by omega, by go_num, rfl, HK2, hx.alloc _⟩
      case measure => simp [intOf]; omega
    · have h1 : ¬ (10 : Int) ≤ (m : Int) := by omega
      have HK2 := Lib.hid ((digR_stop (f := f) (s := b) h10).symm.trans HK.out)
      clear hm2 HK
      go_wp2_with fail
      go_ret
      exact ⟨ret_string HK2.out, hx⟩
end Go.Proofs.YtmecdhbiinpepaaDoor

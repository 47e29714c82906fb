/- strconv.Itoa where its table is laid; what a tied card's condition gives. Conditions: numbers below 100000. -/
import Derived.Test.YtmecdhbiinpepaaDoorGimShelfD
import Derived.Test.YtmecdhbiinpepaaDoorGimDoor
import Derived.Test.YtmecdhbiinpepaaDoorGimPackV
import Derived.Lib.LaidTab
import Derived.Stop.LaidErr
namespace Go.Gim
open Go.RowKit
theorem tab_ext {P : Program} {w w' : World} {n : String} {k : IntKind} {zs : List Int} (h : Lib.TabIs P w n k zs) (hx : Ext w w') : Lib.TabIs P w' n k zs := by
  unfold Lib.TabIs World.var? at *
  cases hg : P.globalNamed n with
  | none => rw [hg] at h; cases h
  | some g =>
    rw [hg] at h
    simp only [Option.bind_some] at h ⊢
    have hlt : g < w.heap.size := by
      cases hb : w.heap[g]? with
      | none => rw [hb] at h; cases h
      | some _ => exact (Array.getElem?_eq_some_iff.1 hb).1
    rw [hx.block g hlt (fun f => f)]; exact h
theorem ext_grow (w : World) (os : Array Obj) : Ext w (Go.Sort.grow w os) := ⟨rfl, rfl, rfl, by simp [Go.Sort.grow], fun k hk _ => by simp [Go.Sort.grow, Array.getElem?_append_left hk]⟩
theorem decBig {i : Nat} (h : ¬ i < 10) : Lib.decDigits i = Lib.decDigits (i / 10) ++ [UInt8.ofNat (48 + i % 10)] := by rw [Lib.decDigits, dif_neg h]
theorem digR_dec : ∀ (f n : Nat) (s : ByteArray), n < 10 ^ (f + 1) → (digR f n s).data.toList = (if n < 10 then [] else Lib.decDigits (n / 10)) ++ s.data.toList
  | 0, n, s, h => by
    have h2 : n < 10 := by simpa using h
    simp [digR, h2]
  | f + 1, n, s, h => by
    have hs : digR (f + 1) n s = if 10 ≤ n then digR f (n / 10) (dig1 (n / 10) ++ s) else s := rfl
    rw [hs]
    by_cases hn : 10 ≤ n
    · have hb : n / 10 < 10 ^ (f + 1) := by rw [Nat.pow_succ] at h; omega
      rw [if_pos hn, digR_dec f (n / 10) _ hb, if_neg (show ¬ n < 10 by omega)]
      have hd : (dig1 (n / 10) ++ s).data.toList = UInt8.ofNat (48 + n / 10 % 10) :: s.data.toList := by
        rw [ByteArray.data_append, Array.toList_append]; rfl
      rw [hd]
      by_cases h10 : n / 10 < 10
      · have e : n / 10 % 10 = n / 10 := by omega
        rw [if_pos h10, Lib.decDigits_one h10, e]; rfl
      · rw [if_neg h10, decBig h10]; simp
    · rw [if_neg hn, if_pos (show n < 10 by omega)]; rfl
theorem digS_dec (n : Nat) (h : n < 100000) : (⟨(Lib.itoa (n : Int)).toArray⟩ : ByteArray) = digS n := by
  have e1 : Lib.itoa (n : Int) = Lib.decDigits n := by
    unfold Lib.itoa
    rw [if_neg (by omega), Int.toNat_natCast]
  have e2 : (digS n).data.toList = Lib.decDigits n := by
    unfold digS
    rw [digR_dec 5 n _ (by omega)]
    by_cases h10 : n < 10
    · have e : n % 10 = n := by omega
      rw [if_pos h10, Lib.decDigits_one h10, show (dig1 n).data.toList = [UInt8.ofNat (48 + n % 10)] from rfl, e]; rfl
    · rw [if_neg h10, decBig h10]; rfl
  rw [e1, ← e2]
end Go.Gim
namespace Go.Proofs.YtmecdhbiinpepaaDoor
open Go.RowKit Go.Gim
/-- The table of powers lies as the program lays it. -/
def Tab (w : World) : Prop := Lib.TabIs Tryd.prog w "internal/strconv.uint64pow10" .u64 Lib.pow10Tab
theorem Tab.ext {w w' : World} (h : Tab w) (hx : Ext w w') : Tab w' := tab_ext h hx
theorem itoa_tab (i : Nat) (w : World) (hi : i < 100000) (h : Tab w) : Calls Tryd.prog 37 #[.int .i64 i] w fun e w' => e = .returned (.string (digS i)) ∧ Ext w w' := by
  refine (Tryd.strconv_Itoa (i : Int) (by omega) (by omega) w h).mono ?_
  rintro e w' ⟨rfl, k, os, rfl⟩
  exact ⟨by rw [digS_dec i hi], ((Mod.refl _ w).drewN k).ext_trans (ext_grow _ _)⟩
theorem tab_of_laid {W : World} (h : laidMetH Tryd.prog laidV W) : Tab W := by
  rw [MakeChecks.laidMetH_plain _ _ _ (by kernel_rfl)] at h
  unfold laidV at h
  have h2 := laidMet.tail (laidMet.tail h)
  exact Lib.tabIs_of_head (g := 1) (by kernel_rfl) (by kernel_rfl) Tryd.underlying120 Tryd.underlying114 (by kernel_rfl) (by kernel_rfl) h2
end Go.Proofs.YtmecdhbiinpepaaDoor

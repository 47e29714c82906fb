/- What the statements on char call to see that the program is one: it answers true; lists of characters held against each other. Conditions: none. -/
import Derived.Test.YthfckncbhkcblaaGimCharM
import Derived.Test.YthfckncbhkcblaaGimSame
namespace Go.Proofs.Ythfckncbhkcblaa
open Go.RowKit Go.Gim

theorem bs_inj {a b : List UInt8} (h : bs a = bs b) : a = b := by
  have := congrArg (fun x : ByteArray => x.data.toList) h
  simpa [bs] using this
theorem strs_map (cs : List (List UInt8)) : strs cs = (cs.map bs).map Value.string := by simp [strs]
theorem map_bs_inj : ∀ {a b : List (List UInt8)}, a.map bs = b.map bs → a = b
  | [], [], _ => rfl
  | [], _ :: _, h => by simp at h
  | _ :: _, [], h => by simp at h
  | x :: a, y :: b, h => by
    simp only [List.map_cons, List.cons.injEq] at h
    rw [bs_inj h.1, map_bs_inj h.2]
theorem ints_map (ns : List Nat) : ints ns = (ns.map (fun (n : Nat) => (n : Int))).map (Value.int .i64) := by simp [ints]
theorem map_nat_inj : ∀ {a b : List Nat}, a.map (fun (n : Nat) => (n : Int)) = b.map (fun (n : Nat) => (n : Int)) → a = b
  | [], [], _ => rfl
  | [], _ :: _, h => by simp at h
  | _ :: _, [], h => by simp at h
  | x :: a, y :: b, h => by
    simp only [List.map_cons, List.cons.injEq] at h
    rw [map_nat_inj h.2]; congr 1; omega

theorem texts_strs (w : World) (ao bo : Option Addr) (cx cy : Nat) (cs ds : List (List UInt8)) (h1 : Reads w 1 ao cs.length (strs cs)) (h2 : Reads w 1 bo ds.length (strs ds)) (hl : cs.length ≤ 1000000) (hl2 : ds.length ≤ 1000000) :
    Calls Try.prog 18 #[.slice ao cs.length cx, .slice bo ds.length cy] w fun e w' => e = .returned (.bool (decide (cs = ds))) ∧ ∃ m, w' = w.drewN m := by
  rw [strs_map] at h1 h2
  have h := texts_any w ao bo cx cy (cs.map bs) (ds.map bs) (by simpa using h1) (by simpa using h2) (by simpa using hl) (by simpa using hl2)
  rw [List.length_map, List.length_map] at h
  have e : decide (cs.map bs = ds.map bs) = decide (cs = ds) := decide_eq_decide.2 ⟨map_bs_inj, fun e => by rw [e]⟩
  rw [e] at h; exact h
theorem ints_nats (w : World) (ao bo : Option Addr) (cx cy : Nat) (cs ds : List Nat) (h1 : Reads w 1 ao cs.length (ints cs)) (h2 : Reads w 1 bo ds.length (ints ds)) (hl : cs.length ≤ 1000000) (hl2 : ds.length ≤ 1000000) :
    Calls Try.prog 20 #[.slice ao cs.length cx, .slice bo ds.length cy] w fun e w' => e = .returned (.bool (decide (cs = ds))) ∧ ∃ m, w' = w.drewN m := by
  rw [ints_map] at h1 h2
  have h := ints_any w ao bo cx cy (cs.map (fun (n : Nat) => (n : Int))) (ds.map (fun (n : Nat) => (n : Int))) (by simpa using h1) (by simpa using h2) (by simpa using hl) (by simpa using hl2)
  rw [List.length_map, List.length_map] at h
  have e : decide (cs.map (fun (n : Nat) => (n : Int)) = ds.map (fun (n : Nat) => (n : Int))) = decide (cs = ds) := decide_eq_decide.2 ⟨map_nat_inj, fun e => by rw [e]⟩
  rw [e] at h; exact h

set_option maxHeartbeats 1600000 in
set_option maxRecDepth 1000000 in
theorem awake11_any (w : World) : Calls Try.prog 16 #[] w fun e w' => e = .returned (.bool true) ∧ Ext w w' := by
  go_enter Try.func16, Try.ntmps16
  go_wp2_with fail
  refine (split_any _ _ (by decide)).mono ?_
  rintro e w1 ⟨ao, cap, rfl, _, hx1⟩
  rw [show (charsAt (⟨#[97, 195, 169, 98]⟩ : ByteArray).data.toList 0).length = 3 from by decide]
  go_wp2_with fail
  refine (places_any _ _ (by decide)).mono ?_
  rintro e w2 ⟨ao2, cap2, rfl, _, hx2⟩
  rw [show (0 :: placesAt (⟨#[]⟩ : ByteArray).data.toList 0).length = 1 from by decide]
  go_wp2_with fail
  refine (proper_any _ _ (by decide)).mono ?_
  rintro e w3 ⟨rfl, rfl⟩
  rw [show properL (⟨#[195, 169]⟩ : ByteArray).data.toList = true from by decide]
  go_wp2_with fail
  refine (word_any _ _).mono ?_
  rintro e w3 ⟨rfl, rfl⟩
  rw [show wordL (⟨#[95]⟩ : ByteArray).data.toList = true from by decide]
  go_wp2_with fail
  refine (fold_any _ _ (by decide)).mono ?_
  rintro e w4 ⟨rfl, hx4⟩
  rw [show bs (fold (⟨#[97, 66]⟩ : ByteArray).data.toList) = ⟨#[97, 98]⟩ from by decide]
  go_wp2_with fail
  refine (first_any _ _ (by decide)).mono ?_
  rintro e w5 ⟨rfl, rfl⟩
  rw [show bs (firstL (⟨#[120, 121]⟩ : ByteArray).data.toList) = ⟨#[120]⟩ from by decide]
  go_wp2_with fail
  go_ret
  exact ⟨rfl, (hx1.ext_trans hx2).ext_trans hx4⟩

end Go.Proofs.Ythfckncbhkcblaa

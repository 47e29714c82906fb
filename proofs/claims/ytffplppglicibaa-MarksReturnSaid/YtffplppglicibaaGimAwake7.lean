/- gimletlaw7's awake; what a nil table answers. Conditions: none. -/
import Derived.Test.YtffplppglicibaaGimTabMove
import Derived.Test.YtffplppglicibaaGimDrop
import Derived.Test.YtffplppglicibaaGimTwin
namespace Go.Gim
theorem tok1 {r : Rg} (h : addE [] r = 0) : Tok [(1, r)] 1 65536 := (Tok.nil.mono (B' := 65536) (by omega)).add (r := r) h (by omega) (by omega)
def awR : Rg := ⟨2, 5, false, false, 0⟩
def awE : List Ed := [⟨2, 2, ⟨#[120, 121]⟩⟩]
theorem awR_ok : addE [] awR = 0 := by decide +kernel
theorem awE_ok : rangedE 65536 awE = 0 := by decide +kernel
theorem aw_moved : getR (moveT awE [(1, awR)]) 1 = some ⟨2, 7, false, false, 0⟩ := by rfl
end Go.Gim
namespace Go.Proofs.Ytffplppglicibaa
open Go.RowKit Go.Gim

theorem get_of {L : Tb} {id : Int} {r : Rg} (h : getR L id = some r) : rgV ((getR L id).getD rg0) = .agg #[.int .i64 r.a, .int .i64 r.b, .bool r.p, .bool r.q, .int .i64 r.u] ∧ (getR L id).isSome = true := by rw [h]; exact ⟨rfl, rfl⟩

set_option maxHeartbeats 1600000 in
set_option maxRecDepth 1000000 in
theorem awake7_any (w : World) : Calls Try.prog 12 #[] w fun e w' => e = .returned (.bool true) ∧ Ext w w' := by
  have HE := Lib.hid aw_moved
  have Ht := Lib.hid (tok1 awR_ok)
  have Ha := Lib.hid awR_ok
  have Hr := Lib.hid awE_ok
  go_enter Try.func12, Try.ntmps12
  go_wp2_with fail
  refine (tnew_any w).mono ?_
  rintro e w1 ⟨tb, mb, rfl, h1, l1, l2, hx1⟩
  have HA := Lib.hid (tadd_any tb mb [] 0 awR w1 h1 (by simp) rfl (by omega) (by omega) (by decide))
  clear h1
  go_wp2_with fail
  refine HA.out.mono ?_
  rintro e w2 hp
  rcases hp with ⟨_, rfl, h2, hm2⟩ | ⟨hne, _⟩
  · have hx2 : Ext w w2 := hx1.trans hm2 (fun i hi e => by unfold tabS at e; omega)
    have H2 := Lib.hid (show TabAt w2 tb mb [(1, awR)] 1 from h2)
    have hl1 := h2.blk.lt
    have hl2 := h2.map.lt
    clear HA hm2 h2
    go_wp2_with fail
    obtain ⟨u, hu⟩ : ∃ u, u = w2.alloc (.cells #[.int .i64 2, .int .i64 2, .string ⟨#[120, 121]⟩] 37) := ⟨_, rfl⟩
    have hxu : Ext w2 u := by rw [hu]; exact (Mod.refl _ w2).alloc _
    have hbu : Reads u 3 (some ⟨w2.heap.size, 0, none⟩) 1 (edE.cells awE) := by
      rw [hu]
      have := Reads.new w2 37 #[.int .i64 2, .int .i64 2, .string ⟨#[120, 121]⟩] 3 1 rfl
      exact this
    rw [← hu]
    clear hu
    refine (tmove_any tb mb [(1, awR)] 1 65536 awE (some ⟨w2.heap.size, 0, none⟩) 1 u (H2.out.ext hxu) Ht.out (by omega) (by omega) hbu (fun h => by cases h) (by decide) (by intro e he; simp [awE] at he; subst he; decide) (fun a ha => by cases ha; unfold tabS; simp only; omega)).mono ?_
    rintro e w3 hp
    rcases hp with ⟨_, rfl, h3, hm3⟩ | ⟨hne, _⟩
    · have hx3 : Ext w w3 := (hx2.ext_trans hxu).trans hm3 (fun i hi e => by unfold tabS at e; omega)
      have HG := Lib.hid (tget_any tb mb _ 1 1 w3 h3 (by decide))
      rw [(get_of HE.out).1, (get_of HE.out).2] at HG
      have hl3 := h3.blk.lt
      clear H2 hbu hxu hm3 h3 hx2 hl1 hl2
      go_wp2_with fail
      refine HG.out.mono ?_
      rintro e w4 ⟨rfl, hx4⟩
      have hx5 := hx3.ext_trans hx4
      clear HG
      go_wp2_with fail
      go_ret
      exact ⟨rfl, by first | exact (hx5.alloc _) | exact (hx5.alloc _).drewN _ | exact (hx5.alloc _).drew⟩
    · exact absurd Hr.out hne
  · exact absurd Ha.out hne
end Go.Proofs.Ytffplppglicibaa
